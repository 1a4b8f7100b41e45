/- Plain: what Parse tells. Conditions: none. -/
/- Plain: a magnitude's number as decimal text is rounded to that magnitude. Conditions: none. -/
/- The shortest digits: finite, walked. Conditions: the variables that values read. -/
/- All digits of a number, walked. Conditions: the variables that values read. -/
/- Plain: the search for the shortest digits ends; how many digits there are. Conditions: none. -/
import Derived.Test.YtncfbleeidjflaaGreatDoorPz04
import Derived.Test.YtncfbleeidjflaaGreatDoorPz32
import Derived.Test.YtncfbleeidjflaaGreatDoorPz34
import Derived.Test.YtncfbleeidjflaaGreatDoorPz21
import Derived.Test.YtncfbleeidjflaaGreatDoorPz30
namespace Go.Proofs.YtncfbleeidjflaaGreatDoor
open Go.RowKit Go.Cal
theorem num_bigX {N n : Nat} (h : n ≤ 2000) (hN : N < 10 ^ n) : N < 18446744073709551616 ^ 128 := by
  have hx : ∀ e f : Nat, n ≤ e → 4 * e ≤ 64 * f → N < 18446744073709551616 ^ f := by
    intro e f h1 hf
    have h1 : 10 ^ n ≤ 10 ^ e := Nat.pow_le_pow_right (by decide) h1
    have h3 : 10 ^ e ≤ 16 ^ e := Nat.pow_le_pow_left (by decide) _
    have h4 : (16 : Nat) ^ e = 2 ^ (4 * e) := by rw [Nat.pow_mul]
    have h5 : (18446744073709551616 : Nat) ^ f = 2 ^ (64 * f) := by rw [Nat.pow_mul]
    have h6 : 2 ^ (4 * e) ≤ 2 ^ (64 * f) := Nat.pow_le_pow_right (by decide) hf
    omega
  exact hx 2000 128 h (by decide)
end Go.Proofs.YtncfbleeidjflaaGreatDoor
namespace Go.Proofs.YtncfbleeidjflaaGreatDoor
open Go.RowKit Go.Cal
theorem dec_lenH {u k : Nat} (hk : 1 ≤ k) (h : u < 10 ^ k) : (Lib.decDigits u).length ≤ k := (padd_dec k u hk h).2
theorem dec_lowH {u k : Nat} (h : 10 ^ k ≤ u) : k < (Lib.decDigits u).length := by
  have h1 := numV_lt (Lib.decDigits u) (dec_digs u)
  rw [numV_dec] at h1
  exact (Nat.pow_lt_pow_iff_right (a := 10) (by decide)).1 (Nat.lt_of_le_of_lt h h1)
/-- How m times 2 to the power of e is written: digits, and a power of ten. -/
def hasM (m : Nat) (e : Int) : Nat := if 0 ≤ e then m * 2 ^ e.toNat else m * 5 ^ (-e).toNat
def hasK (e : Int) : Int := if 0 ≤ e then 0 else e
theorem five_low3 (a : Nat) : 10 ^ (a * 2 / 3) ≤ 5 ^ a := by
  have h0 : (10 : Nat) ^ 2 ≤ 5 ^ 3 := by decide
  have h1 : (10 ^ (a * 2 / 3)) ^ 3 ≤ (5 ^ a) ^ 3 := by
    rw [← Nat.pow_mul, ← Nat.pow_mul]
    calc 10 ^ (a * 2 / 3 * 3) ≤ 10 ^ (2 * a) := Nat.pow_le_pow_right (by decide) (by omega)
      _ = (10 ^ 2) ^ a := Nat.pow_mul 10 2 a
      _ ≤ (5 ^ 3) ^ a := Nat.pow_le_pow_left h0 a
      _ = 5 ^ (a * 3) := by rw [← Nat.pow_mul, Nat.mul_comm]
  exact (Nat.pow_le_pow_iff_left (by decide)).1 h1
theorem five_high5 (a : Nat) : 5 ^ a ≤ 10 ^ ((a * 7 + 9) / 10) := by
  have h0 : (5 : Nat) ^ 10 ≤ 10 ^ 7 := by decide
  have h1 : (5 ^ a) ^ 10 ≤ (10 ^ ((a * 7 + 9) / 10)) ^ 10 := by
    rw [← Nat.pow_mul, ← Nat.pow_mul]
    calc 5 ^ (a * 10) = (5 ^ 10) ^ a := by rw [← Nat.pow_mul, Nat.mul_comm]
      _ ≤ (10 ^ 7) ^ a := Nat.pow_le_pow_left h0 a
      _ = 10 ^ (7 * a) := by rw [← Nat.pow_mul]
      _ ≤ 10 ^ ((a * 7 + 9) / 10 * 10) := Nat.pow_le_pow_right (by decide) (by omega)
  exact (Nat.pow_le_pow_iff_left (by decide)).1 h1
/-- How many digits it has. -/
theorem has_len {m : Nat} {e : Int} (hm : m < 18446744073709551616) (he : -2000 ≤ e ∧ e ≤ 2000) :
    (Lib.decDigits (hasM m e)).length ≤ 1990 ∧ (0 < m → ((Lib.decDigits (hasM m e)).length : Int) + hasK e ≤ 1000) ∧ (0 < m → -999 ≤ ((Lib.decDigits (hasM m e)).length : Int) + hasK e) := by
  have h20 : (18446744073709551616 : Nat) ≤ 10 ^ 20 := by decide
  unfold hasM hasK
  by_cases h0 : 0 ≤ e
  · rw [if_pos h0, if_pos h0]
    have hp : 2 ^ e.toNat ≤ 10 ^ ((e.toNat + 2) / 3) := by
      have h8 : (2 : Nat) ^ 3 ≤ 10 := by decide
      calc 2 ^ e.toNat ≤ 2 ^ (3 * ((e.toNat + 2) / 3)) := Nat.pow_le_pow_right (by decide) (by omega)
        _ = (2 ^ 3) ^ ((e.toNat + 2) / 3) := Nat.pow_mul 2 3 _
        _ ≤ 10 ^ ((e.toNat + 2) / 3) := Nat.pow_le_pow_left h8 _
    have hlt : m * 2 ^ e.toNat < 10 ^ (20 + (e.toNat + 2) / 3) := by
      rw [Nat.pow_add]
      exact Nat.lt_of_lt_of_le (Nat.mul_lt_mul_of_pos_right hm (Nat.two_pow_pos _)) (Nat.mul_le_mul h20 hp)
    have := dec_lenH (by omega) hlt
    exact ⟨by omega, fun _ => by omega, fun _ => by omega⟩
  · rw [if_neg h0, if_neg h0]
    obtain ⟨a, ha⟩ : ∃ a, (-e).toNat = a := ⟨_, rfl⟩
    rw [ha]
    have hea : e = -(a : Int) := by omega
    have hp := five_high5 a
    have hq := five_low3 a
    have h5 : 0 < 5 ^ a := Nat.pow_pos (by decide)
    have hlt : m * 5 ^ a < 10 ^ (20 + (a * 7 + 9) / 10) := by
      rw [Nat.pow_add]
      exact Nat.lt_of_lt_of_le (Nat.mul_lt_mul_of_pos_right hm h5) (Nat.mul_le_mul h20 hp)
    have hl := dec_lenH (by omega) hlt
    refine ⟨by omega, fun _ => by omega, fun h => ?_⟩
    have hge : 10 ^ (a * 2 / 3) ≤ m * 5 ^ a := Nat.le_trans hq (Nat.le_mul_of_pos_left _ h)
    have := dec_lowH hge
    omega
end Go.Proofs.YtncfbleeidjflaaGreatDoor
namespace Go.Proofs.YtncfbleeidjflaaGreatDoor
open Go.RowKit Go.Cal
/-- A number's pattern: what Decode and Key tell of it. -/
structure Fin (id p : Int) (ng : Bool) (K mv : Nat) (ev : Int) : Prop where
  h1 : 1 ≤ id
  h2 : id < 15
  p0 : 0 ≤ p
  p1 : p < 2 ^ (fW id).toNat
  cl : classV id p = 2
  ng : partN id p = ng
  key : partK id p = (K : Int)
  mag : magV id 0 K = (mv, ev)
theorem Fin.dec {id p : Int} {ng : Bool} {K mv : Nat} {ev : Int} (h : Fin id p ng K mv ev) : decN id p = ng ∧ decM id p = mv ∧ decE id p = ev := by
  have hk : (partK id p).toNat = K := by rw [h.key]; rfl
  refine ⟨?_, ?_, ?_⟩
  · unfold decN; rw [if_neg (by rw [h.cl]; decide), h.ng]
  · unfold decM; rw [if_pos h.cl, hk, h.mag]
  · unfold decE; rw [if_pos h.cl, hk, h.mag]
theorem Fin.bnd {id p : Int} {ng : Bool} {K mv : Nat} {ev : Int} (h : Fin id p ng K mv ev) : 0 < mv ∧ mv < 18446744073709551616 ∧ -2000 ≤ ev ∧ ev ≤ 2000 := by
  obtain ⟨x1, x2, x3, x4⟩ := class_two h.h1 h.h2 h.p0 h.p1 h.cl
  have hk := h.key
  obtain ⟨a1, a2, a3, a4, -⟩ := mag_range0 (key := K) h.h1 h.h2 (by omega) (fun h4 => by have := x3 h4; omega)
  rw [h.mag] at a1 a2 a3 a4
  exact ⟨a1, a2, a3, a4⟩
theorem boxes2' (w : World) (a b : Array Value) (t t' : TypeId) : LiveP w ((w.alloc (.cells a t)).alloc (.cells b t')) [pBlk (w.heap.size + 1) b t', pBlk w.heap.size a t] := by
  have hb0 := (Below.refl w.heap.size w).alloc (Nat.le_refl _) (.cells a t)
  have h1 := ((LiveP.start w).go hb0).put (pBlk_st _ _ _) (pBlk_made w a t)
  have h2 := h1.go ((Below.refl _ _).alloc (Nat.le_refl _) (.cells b t'))
  exact h2.put (pBlk_st _ _ _) (pBlk_madeS (w.alloc (.cells a t)) b t' (w.heap.size + 1) (by simp))
set_option maxRecDepth 100000 in
set_option maxHeartbeats 2000000 in
theorem finite_yes {id p : Int} {ng : Bool} {K mv : Nat} {ev : Int} (h : Fin id p ng K mv ev) (w : World) (hW : VaW w) :
    Calls Tryz.prog 66 #[.int .i64 id, .int .u64 p] w fun e w' => ∃ A n c, e = .returned (.tuple #[.agg #[.int .i64 2, .bool ng, .int .u64 (mv : Nat), .int .i64 ev], .agg #[.bool false, .slice A n c, .int .i64 ev, .int .i64 0], .int .i64 0]) ∧ IsT w' (.slice A n c) 128 mv ∧ Below w.heap.size w w' := by
  obtain ⟨d1, d2, d3⟩ := h.dec
  obtain ⟨b1, b2, b3, b4⟩ := h.bnd
  have hdc := fun w hW => vdec_yes id p h.h1 h.h2 h.p0 h.p1 w hW
  rw [h.cl, d1, d2, d3] at hdc
  replace hdc := Lib.hid hdc
  have hof := Lib.hid fun w => xof_fin false mv ev b2 ⟨by omega, by omega⟩ w
  clear h d1 d2 d3 b1 b2 b3 b4
  have hL := boxes2' w #[.int .i64 0, .bool false, .int .u64 0, .int .i64 0] #[.bool false, .slice none 0 0, .int .i64 0, .int .i64 0] 46 71
  go_enter Tryz.func66, Tryz.ntmps66
  go_wp2_with fail
  refine (hdc.out _ (hW.below hL.below)).mono ?_
  rintro e u1 ⟨rfl, hb⟩
  have hu1 : w.heap.size + 1 < u1.heap.size := by have := hb.size; simp at this; omega
  replace hL := ((hL.go hb).go ((Below.refl _ _).alloc (Nat.le_refl _) (.cells #[.int .i64 2, .bool ng, .int .u64 (mv : Nat), .int .i64 ev] 46))).put (pBlk_st _ _ _) (pBlk_made u1 #[.int .i64 2, .bool ng, .int .u64 (mv : Nat), .int .i64 ev] 46)
  clear hb
  go_wp2_with fail
  refine (hof.out _).mono ?_
  rintro e u2 ⟨A, n, c, rfl, hv, hb⟩
  have hal : Below u2.heap.size u2 (u2.alloc (.cells #[.bool false, .slice A n c, .int .i64 ev, .int .i64 0] 71)) := (Below.refl _ _).alloc (Nat.le_refl _) _
  have hbs := hb.size
  replace hv := hv.below hal
  replace hL := ((hL.go hb).go hal).put (pBlk_st _ _ _) (pBlk_made u2 #[.bool false, .slice A n c, .int .i64 ev, .int .i64 0] 71)
  clear hb hal
  have hu2 : u1.heap.size < u2.heap.size := by have := hbs; simp at this; omega
  have p0 := hL.get (P := pBlk w.heap.size #[.int .i64 0, .bool false, .int .u64 0, .int .i64 0] 46) (by repeat (first | exact List.mem_cons_self | apply List.mem_cons_of_mem))
  have p1 := hL.get (P := pBlk (w.heap.size + 1) #[.bool false, .slice none 0 0, .int .i64 0, .int .i64 0] 71) (by repeat (first | exact List.mem_cons_self | apply List.mem_cons_of_mem))
  have p2 := hL.get (P := pBlk u1.heap.size #[.int .i64 2, .bool ng, .int .u64 (mv : Nat), .int .i64 ev] 46) (by repeat (first | exact List.mem_cons_self | apply List.mem_cons_of_mem))
  have p3 := hL.get (P := pBlk u2.heap.size #[.bool false, .slice A n c, .int .i64 ev, .int .i64 0] 71) (by repeat (first | exact List.mem_cons_self | apply List.mem_cons_of_mem))
  have B := hL.below
  have p3' : pBlk u2.heap.size #[.bool false, .slice A n c, .int .i64 ev, .int .i64 0] 71 (u2.alloc (.cells #[.bool false, .slice A n c, .int .i64 ev, .int .i64 0] 71)) := p3
  clear hL hof hdc p3
  obtain ⟨gx, hgx⟩ : ∃ g, u2.heap.size = g := ⟨_, rfl⟩
  rw [hgx] at p3' hu2
  obtain ⟨a0, a1, a2, a3⟩ := cells4 p2
  obtain ⟨b0, b1, b2, b3⟩ := cells4 p3'
  obtain ⟨d0, d1, d2, d3⟩ := cells4 p0
  obtain ⟨e0, e1, e2, e3⟩ := cells4 p1
  have f0 := p0.free 0
  have f1 := p0.free 1
  have f2 := p0.free 2
  have f3 := p0.free 3
  have g0 := p1.free 0
  have g1 := p1.free 1
  have g2 := p1.free 2
  have g3 := p1.free 3
  go_wp2_with fail
  (try rw [hgx])
  obtain ⟨UU, hUU⟩ : ∃ U, u2.alloc (.cells #[.bool false, .slice A n c, .int .i64 ev, .int .i64 0] 71) = U := ⟨_, rfl⟩
  rw [hUU] at a0 a1 a2 a3 b0 b1 b2 b3 d0 d1 d2 d3 e0 e1 e2 e3 f0 f1 f2 f3 g0 g1 g2 g3 p0 p1 p2 p3' B hv ⊢
  clear hUU hgx
  go_region
  all_goals
    obtain ⟨W2, hW2, r0, r1, hk, hB⟩ := two_rows p0 p1 (by omega) (noU4 _ _ _ _ _ _) (.int .i64 2) (.bool ng) (.int .u64 (mv : Nat)) (.int .i64 ev) (.bool false) (.slice A n c) (.int .i64 ev) (.int .i64 0)
    rw [hW2]
    clear a0 a1 a2 a3 b0 b1 b2 b3 d0 d1 d2 d3 e0 e1 e2 e3 f0 f1 f2 f3 g0 g1 g2 g3
    obtain ⟨s0, s1, s2, s3⟩ := cells4 r0
    obtain ⟨t0, t1, t2, t3⟩ := cells4 r1
    have hfin := (B.trans (hB w.heap.size (Nat.le_refl _) (by omega))).trans (Below.refl _ _).drew
    have hvf := (hk _ _ _ hv).below (Below.refl _ _).drew
    go_wp2
    exact bodyPost_ret (v := .tuple #[.agg #[.int .i64 2, .bool ng, .int .u64 (mv : Nat), .int .i64 ev], .agg #[.bool false, .slice A n c, .int .i64 ev, .int .i64 0], .int .i64 0]) (by simp [results, Tryz.results66, go_sem, s0, s1, s2, s3, t0, t1, t2, t3]) rfl ⟨A, n, c, rfl, hvf, hfin⟩
end Go.Proofs.YtncfbleeidjflaaGreatDoor
namespace Go.Proofs.YtncfbleeidjflaaGreatDoor
open Go.RowKit Go.Cal
theorem lt_powF {N e f : Nat} (h : N < 10 ^ e) (he : e ≤ f) : N < 10 ^ f := Nat.lt_of_lt_of_le h (Nat.pow_le_pow_right (by decide) he)
theorem hasM_lt {m F : Nat} {e : Int} (hm : m < 18446744073709551616) (he : -2000 ≤ e ∧ e ≤ 2000) (hF : 1990 ≤ F) : hasM m e < 10 ^ F := by
  have h1 := numV_lt (Lib.decDigits (hasM m e)) (dec_digs _)
  rw [numV_dec] at h1
  exact lt_powF h1 (Nat.le_trans (has_len hm he).1 hF)
section
variable {w W W' : World} {A : Option Addr} {n c mv gv gx : Nat} {ng : Bool} {ev : Int}
theorem boxF (h : LiveP w W [pBlk gx #[.bool false, .slice A n c, .int .i64 ev, .int .i64 0] 71, pBlk gv #[.int .i64 2, .bool ng, .int .u64 (mv : Nat), .int .i64 ev] 46, pT (.slice A n c) 128 mv, pBlk w.heap.size #[.bool false, .slice none 0 0, .int .i64 0] 51]) : LiveP w W [pBlk gx #[.bool false, .slice A n c, .int .i64 ev, .int .i64 0] 71, pBlk gv #[.int .i64 2, .bool ng, .int .u64 (mv : Nat), .int .i64 ev] 46, pT (.slice A n c) 128 mv, pBlk w.heap.size #[.bool false, .slice none 0 0, .int .i64 0] 51] ∧ gv < (W).heap.size ∧ gx < (W).heap.size ∧ (W).cell? ⟨gv, 1, none⟩ = some (.bool ng) ∧ (W).cell? ⟨gx, 1, none⟩ = some (.slice A n c) ∧ (W).cell? ⟨gx, 2, none⟩ = some (.int .i64 ev) := by
  have p1 := h.get (P := pBlk gv #[.int .i64 2, .bool ng, .int .u64 (mv : Nat), .int .i64 ev] 46) (by repeat (first | exact List.mem_cons_self | apply List.mem_cons_of_mem))
  have p2 := h.get (P := pBlk gx #[.bool false, .slice A n c, .int .i64 ev, .int .i64 0] 71) (by repeat (first | exact List.mem_cons_self | apply List.mem_cons_of_mem))
  exact ⟨h, p1.lt, p2.lt, p1.cell 1 _ rfl, p2.cell 1 _ rfl, p2.cell 2 _ rfl⟩
theorem keepF (h : LiveP w W [pBlk gx #[.bool false, .slice A n c, .int .i64 ev, .int .i64 0] 71, pBlk gv #[.int .i64 2, .bool ng, .int .u64 (mv : Nat), .int .i64 ev] 46, pT (.slice A n c) 128 mv, pBlk w.heap.size #[.bool false, .slice none 0 0, .int .i64 0] 51] ∧ gv < (W).heap.size ∧ gx < (W).heap.size ∧ (W).cell? ⟨gv, 1, none⟩ = some (.bool ng) ∧ (W).cell? ⟨gx, 1, none⟩ = some (.slice A n c) ∧ (W).cell? ⟨gx, 2, none⟩ = some (.int .i64 ev)) (hb : Below W.heap.size W W') : LiveP w W' [pBlk gx #[.bool false, .slice A n c, .int .i64 ev, .int .i64 0] 71, pBlk gv #[.int .i64 2, .bool ng, .int .u64 (mv : Nat), .int .i64 ev] 46, pT (.slice A n c) 128 mv, pBlk w.heap.size #[.bool false, .slice none 0 0, .int .i64 0] 51] ∧ gv < (W').heap.size ∧ gx < (W').heap.size ∧ (W').cell? ⟨gv, 1, none⟩ = some (.bool ng) ∧ (W').cell? ⟨gx, 1, none⟩ = some (.slice A n c) ∧ (W').cell? ⟨gx, 2, none⟩ = some (.int .i64 ev) := boxF (h.1.go hb)
theorem shlF {N : Nat} (h : LiveP w W [pBlk gx #[.bool false, .slice A n c, .int .i64 ev, .int .i64 0] 71, pBlk gv #[.int .i64 2, .bool ng, .int .u64 (mv : Nat), .int .i64 ev] 46, pT (.slice A n c) 128 mv, pBlk w.heap.size #[.bool false, .slice none 0 0, .int .i64 0] 51] ∧ gv < (W).heap.size ∧ gx < (W).heap.size ∧ (W).cell? ⟨gv, 1, none⟩ = some (.bool ng) ∧ (W).cell? ⟨gx, 1, none⟩ = some (.slice A n c) ∧ (W).cell? ⟨gx, 2, none⟩ = some (.int .i64 ev)) (hN : mv * 2 ^ (min (max ev 0) 131072).toNat = N) (hw : N < 18446744073709551616 ^ 161) : Calls Tryz.prog 46 #[.slice A n c, .int .i64 ev] W fun e w' => ∃ A' n' c', e = .returned (.slice A' n' c') ∧ IsT w' (.slice A' n' c') 161 N ∧ Below W.heap.size W w' :=
  (shl_t ev 161 N (IsT.isN (h.1.get (P := pT (.slice A n c) 128 mv) (by repeat (first | exact List.mem_cons_self | apply List.mem_cons_of_mem)))) (by decide) hN hw).mono fun e w' h => by
    obtain ⟨v, rfl, hv, hb⟩ := h
    obtain ⟨A, n, c, rfl⟩ := isT_shape hv
    exact ⟨A, n, c, rfl, hv, hb⟩
theorem powF {a : Nat} (w : World) (hpa : (min (max (-ev) 0) 10000).toNat = a) : Calls Tryz.prog 48 #[.int .u64 5, .int .i64 (-ev)] w fun e w' => ∃ A' n' c', e = .returned (.slice A' n' c') ∧ IsT w' (.slice A' n' c') (a + 1) (5 ^ a) ∧ Below w.heap.size w w' :=
  (pow_t w 5 (by decide) (-ev) a hpa).mono fun e w' h => by
    obtain ⟨v, rfl, hv, hb⟩ := h
    obtain ⟨A, n, c, rfl⟩ := isT_shape hv
    exact ⟨A, n, c, rfl, hv, hb⟩
theorem mulF {a N : Nat} {A2 : Option Addr} {n2 c2 : Nat} (h : LiveP w W [pBlk gx #[.bool false, .slice A n c, .int .i64 ev, .int .i64 0] 71, pBlk gv #[.int .i64 2, .bool ng, .int .u64 (mv : Nat), .int .i64 ev] 46, pT (.slice A n c) 128 mv, pBlk w.heap.size #[.bool false, .slice none 0 0, .int .i64 0] 51] ∧ gv < (W).heap.size ∧ gx < (W).heap.size ∧ (W).cell? ⟨gv, 1, none⟩ = some (.bool ng) ∧ (W).cell? ⟨gx, 1, none⟩ = some (.slice A n c) ∧ (W).cell? ⟨gx, 2, none⟩ = some (.int .i64 ev)) (h2 : IsT W (.slice A2 n2 c2) (a + 1) (5 ^ a)) (ha : a ≤ 2000) (hN : mv * 5 ^ a = N) : Calls Tryz.prog 47 #[.slice A n c, .slice A2 n2 c2] W fun e w' => ∃ A' n' c', e = .returned (.slice A' n' c') ∧ IsT w' (.slice A' n' c') (128 + (a + 1)) N ∧ Below W.heap.size W w' :=
  (mul_t (IsT.isN (h.1.get (P := pT (.slice A n c) 128 mv) (by repeat (first | exact List.mem_cons_self | apply List.mem_cons_of_mem)))) (IsT.isN h2) (by decide) (by omega)).mono fun e w' h => by
    obtain ⟨v, rfl, hv, hb⟩ := h
    rw [hN] at hv
    obtain ⟨A, n, c, rfl⟩ := isT_shape hv
    exact ⟨A, n, c, rfl, hv, hb⟩
theorem storedF {a b d : Value} (h : LiveP w W [pBlk gx #[.bool false, .slice A n c, .int .i64 ev, .int .i64 0] 71, pBlk gv #[.int .i64 2, .bool ng, .int .u64 (mv : Nat), .int .i64 ev] 46, pT (.slice A n c) 128 mv, pBlk w.heap.size #[.bool false, .slice none 0 0, .int .i64 0] 51] ∧ gv < (W).heap.size ∧ gx < (W).heap.size ∧ (W).cell? ⟨gv, 1, none⟩ = some (.bool ng) ∧ (W).cell? ⟨gx, 1, none⟩ = some (.slice A n c) ∧ (W).cell? ⟨gx, 2, none⟩ = some (.int .i64 ev)) (h1 : w.heap.size + 1 ≤ gv) (h2 : w.heap.size + 1 ≤ gx) : gv < (((W.setCell ⟨w.heap.size, 0, none⟩ a).setCell ⟨w.heap.size, 1, none⟩ b).setCell ⟨w.heap.size, 2, none⟩ d).heap.size ∧ gx < (((W.setCell ⟨w.heap.size, 0, none⟩ a).setCell ⟨w.heap.size, 1, none⟩ b).setCell ⟨w.heap.size, 2, none⟩ d).heap.size ∧ (((W.setCell ⟨w.heap.size, 0, none⟩ a).setCell ⟨w.heap.size, 1, none⟩ b).setCell ⟨w.heap.size, 2, none⟩ d).cell? ⟨gv, 1, none⟩ = some (.bool ng) ∧ (((W.setCell ⟨w.heap.size, 0, none⟩ a).setCell ⟨w.heap.size, 1, none⟩ b).setCell ⟨w.heap.size, 2, none⟩ d).cell? ⟨gx, 1, none⟩ = some (.slice A n c) ∧ (((W.setCell ⟨w.heap.size, 0, none⟩ a).setCell ⟨w.heap.size, 1, none⟩ b).setCell ⟨w.heap.size, 2, none⟩ d).cell? ⟨gx, 2, none⟩ = some (.int .i64 ev) := by
  obtain ⟨-, e1, e2, e3, e4, e5⟩ := h
  have n1 : ¬ w.heap.size = gv := by omega
  have n2 : ¬ w.heap.size = gx := by omega
  have hoth : ∀ (W : World) (i k j : Nat) (v : Value), ¬ w.heap.size = k → (W.setCell ⟨w.heap.size, i, none⟩ v).cell? ⟨k, j, none⟩ = W.cell? ⟨k, j, none⟩ := by
    intro W i k j v hk
    have : (W.setCell ⟨w.heap.size, i, none⟩ v).heap[k]? = W.heap[k]? := by
      unfold World.setCell
      simp only [Array.getElem?_modify]
      rw [if_neg hk]
    unfold World.cell?
    rw [this]
  refine ⟨by simpa using e1, by simpa using e2, ?_, ?_, ?_⟩
  · rw [hoth _ _ _ _ _ n1, hoth _ _ _ _ _ n1, hoth _ _ _ _ _ n1]; exact e3
  · rw [hoth _ _ _ _ _ n2, hoth _ _ _ _ _ n2, hoth _ _ _ _ _ n2]; exact e4
  · rw [hoth _ _ _ _ _ n2, hoth _ _ _ _ _ n2, hoth _ _ _ _ _ n2]; exact e5
end
theorem hasM_pos {m : Nat} {e : Int} (hm : 0 < m) : 0 < hasM m e := by
  unfold hasM
  split
  · exact Nat.mul_pos hm (Nat.two_pow_pos _)
  · exact Nat.mul_pos hm (Nat.pow_pos (by decide))
/-- The digits of a number. -/
def fullV (mv : Nat) (ev : Int) (F : Nat) : Nat × Int := stripV F (hasM mv ev) (hasK ev)
set_option maxRecDepth 100000 in
set_option maxHeartbeats 20000000 in
theorem full_yes {id p : Int} {ng : Bool} {K mv : Nat} {ev : Int} (h : Fin id p ng K mv ev) (w : World) (hW : VaW w) (F : Nat) (hF : F ≤ 3000) (hF0 : 1990 ≤ F) :
    Calls Tryz.prog 29 #[.int .i64 id, .int .u64 p] w fun e w' => ∃ A n c, e = .returned (.tuple #[.agg #[.bool ng, .slice A n c, .int .i64 (fullV mv ev F).2], .int .i64 0]) ∧ IsT w' (.slice A n c) 5000 (fullV mv ev F).1 ∧ Below w.heap.size w w' := by
  obtain ⟨b1, b2, b3, b4⟩ := h.bnd
  have hfi := Lib.hid fun w hW => finite_yes h w hW
  have hlt := hasM_lt b2 ⟨b3, b4⟩ hF0
  have hpos := hasM_pos (e := ev) b1
  obtain ⟨N, hN⟩ : ∃ N, hasM mv ev = N := ⟨_, rfl⟩
  unfold fullV
  rw [hN] at hlt hpos ⊢
  clear h
  have hb0 := (Below.refl w.heap.size w).alloc (Nat.le_refl _) (.cells #[.bool false, .slice none 0 0, .int .i64 0] 51)
  have hL := ((LiveP.start w).go hb0).put (pBlk_st _ _ _) (pBlk_made w #[.bool false, .slice none 0 0, .int .i64 0] 51)
  clear hb0
  by_cases h0 : 0 ≤ ev
  · have hNe : mv * 2 ^ (min (max ev 0) 131072).toNat = N := by
      rw [← hN]; unfold hasM; rw [if_pos h0]; congr 2; omega
    have hNw : N < 18446744073709551616 ^ 161 := by rw [← hNe]; exact shl_bnd 128 mv _ 33 (Nat.lt_of_lt_of_le b2 (by decide +kernel)) (by omega)
    have hK0 : hasK ev = 0 := by unfold hasK; rw [if_pos h0]
    rw [hK0]
    have hdg := fun (W : World) A n c (h : IsT W (.slice A n c) 161 N) => sdigits_any ng 0 h (by decide) hpos F hF hlt (by decide)
    generalize stripV F N 0 = R at hdg ⊢
    obtain ⟨D, E⟩ := R
    replace hdg := Lib.hid hdg
    replace hNe := Lib.hid hNe
    replace hNw := Lib.hid hNw
    replace hN := Lib.hid hN
    clear hlt hK0
    go_enter Tryz.func29, Tryz.ntmps29
    go_wp2_with fail
    refine (hfi.out _ (hW.below hL.below)).mono ?_
    rintro e u1 ⟨A, n, c, rfl, hv, hb⟩
    have hu1 := hb.size
    simp at hu1
    replace hL := (hL.go hb).put (pT_st _ _ _) hv
    clear hb hv
    go_wp2_with fail
    have hL1 := (hL.go ((Below.refl _ _).alloc (Nat.le_refl _) (.cells #[.int .i64 2, .bool ng, .int .u64 (mv : Nat), .int .i64 ev] 46))).put (pBlk_st _ _ _) (pBlk_made u1 #[.int .i64 2, .bool ng, .int .u64 (mv : Nat), .int .i64 ev] 46)
    have hL2 := (hL1.go ((Below.refl _ _).alloc (Nat.le_refl _) (.cells #[.bool false, .slice A n c, .int .i64 ev, .int .i64 0] 71))).put (pBlk_st _ _ _) (pBlk_madeS (u1.alloc (.cells #[.int .i64 2, .bool ng, .int .u64 (mv : Nat), .int .i64 ev] 46)) #[.bool false, .slice A n c, .int .i64 ev, .int .i64 0] 71 (u1.heap.size + 1) (by simp))
    obtain ⟨gv, hgv⟩ : ∃ g, u1.heap.size = g := ⟨_, rfl⟩
    obtain ⟨gx, hgx⟩ : ∃ g, gv + 1 = g := ⟨_, rfl⟩
    rw [hgv, hgx] at hL2
    have hS0 := boxF ((hL2.keep (l' := [pBlk gx #[.bool false, .slice A n c, .int .i64 ev, .int .i64 0] 71, pBlk gv #[.int .i64 2, .bool ng, .int .u64 (mv : Nat), .int .i64 ev] 46, pT (.slice A n c) 128 mv, pBlk w.heap.size #[.bool false, .slice none 0 0, .int .i64 0] 51]) (by simp)).go (Below.refl _ _).drew)
    rw [hgv] at hu1
    rw [hgv, hgx]
    replace hgx := Lib.hid hgx
    clear hL hL1 hL2
    have hS0' := hS0
    obtain ⟨-, -, -, d1, d2, d3⟩ := hS0'
    have hsh := fun (W : World) (h : LiveP w W [pBlk gx #[.bool false, .slice A n c, .int .i64 ev, .int .i64 0] 71, pBlk gv #[.int .i64 2, .bool ng, .int .u64 (mv : Nat), .int .i64 ev] 46, pT (.slice A n c) 128 mv, pBlk w.heap.size #[.bool false, .slice none 0 0, .int .i64 0] 51] ∧ gv < (W).heap.size ∧ gx < (W).heap.size ∧ (W).cell? ⟨gv, 1, none⟩ = some (.bool ng) ∧ (W).cell? ⟨gx, 1, none⟩ = some (.slice A n c) ∧ (W).cell? ⟨gx, 2, none⟩ = some (.int .i64 ev)) => shlF h hNe.out hNw.out
    replace hsh := Lib.hid hsh
    have hg2 : w.heap.size + 1 ≤ gx := by have := hgx.out; omega
    go_region_held3 (fun w' => gv < (w').heap.size ∧ gx < (w').heap.size ∧ (w').cell? ⟨gv, 1, none⟩ = some (.bool ng) ∧ (w').cell? ⟨gx, 1, none⟩ = some (.slice A n c) ∧ (w').cell? ⟨gx, 2, none⟩ = some (.int .i64 ev)) (first | with_reducible exact hS0.2 | with_reducible assumption | with_reducible exact hF4.2 | with_reducible exact hF5.2 | with_reducible exact storedF hF5 hu1 hg2 | fail)
      (first
        | (go_at_call 46; with_reducible refine Calls.mono (hsh.out _ hS0) ?_; rintro e w4 ⟨A4, n4, c4, rfl, hv4, hb4⟩; (have hF4 := keepF hS0 hb4))
        | (go_at_call 70; with_reducible refine Calls.mono (hdg.out _ _ _ _ hv4) ?_; rintro e w5 ⟨A5, n5, c5, rfl, hv5, hb5⟩; (have hF5 := keepF hF4 hb5); (have hD := hF5.1.get (P := pBlk w.heap.size #[.bool false, .slice none 0 0, .int .i64 0] 51) (by repeat (first | exact List.mem_cons_self | apply List.mem_cons_of_mem))); (obtain ⟨q0, q1, q2⟩ := cells3 hD); (have f0 := hD.free 0); (have f1 := hD.free 1); (have f2 := hD.free 2))
        | fail)
    all_goals
      have hv6 := isT_more hv5 (show 161 ≤ 5000 by omega)
      have hB6 := hF5.1.below
      obtain ⟨W6, hW6, r6, hk6, hBl⟩ := three_row (b1 := ng) (x1 := A5) (y1 := n5) (z1 := c5) (c1 := E) hD
      rw [hW6]
      obtain ⟨y0, y1, y2⟩ := cells3 r6
      have hv7 := hk6 _ _ _ hv6
      have hB7 := hB6.trans (hBl w.heap.size (Nat.le_refl _))
      clear f0 f1 f2 q0 q1 q2 hD
      go_wp2
      exact bodyPost_ret (v := .tuple #[.agg #[.bool ng, .slice A5 n5 c5, .int .i64 E], .int .i64 0]) (by simp [results, Tryz.results29, go_sem, y0, y1, y2]) rfl ⟨A5, n5, c5, rfl, hv7, hB7⟩
  · obtain ⟨a, ha⟩ : ∃ a, (-ev).toNat = a := ⟨_, rfl⟩
    have hpa : (min (max (-ev) 0) 10000).toNat = a := by omega
    have ha2 : a ≤ 2000 := by omega
    have hNe : mv * 5 ^ a = N := by rw [← hN]; unfold hasM; rw [if_neg h0, ha]
    have hK0 : hasK ev = ev := by unfold hasK; rw [if_neg h0]
    rw [hK0]
    have hdg := fun (W : World) A n c (h : IsT W (.slice A n c) (128 + (a + 1)) N) => sdigits_any ng ev h (by omega) hpos F hF hlt (by omega)
    generalize stripV F N ev = R at hdg ⊢
    obtain ⟨D, E⟩ := R
    replace hdg := Lib.hid hdg
    replace hNe := Lib.hid hNe
    replace hN := Lib.hid hN
    replace ha := Lib.hid ha
    clear hlt hK0
    go_enter Tryz.func29, Tryz.ntmps29
    go_wp2_with fail
    refine (hfi.out _ (hW.below hL.below)).mono ?_
    rintro e u1 ⟨A, n, c, rfl, hv, hb⟩
    have hu1 := hb.size
    simp at hu1
    replace hL := (hL.go hb).put (pT_st _ _ _) hv
    clear hb hv
    go_wp2_with fail
    have hL1 := (hL.go ((Below.refl _ _).alloc (Nat.le_refl _) (.cells #[.int .i64 2, .bool ng, .int .u64 (mv : Nat), .int .i64 ev] 46))).put (pBlk_st _ _ _) (pBlk_made u1 #[.int .i64 2, .bool ng, .int .u64 (mv : Nat), .int .i64 ev] 46)
    have hL2 := (hL1.go ((Below.refl _ _).alloc (Nat.le_refl _) (.cells #[.bool false, .slice A n c, .int .i64 ev, .int .i64 0] 71))).put (pBlk_st _ _ _) (pBlk_madeS (u1.alloc (.cells #[.int .i64 2, .bool ng, .int .u64 (mv : Nat), .int .i64 ev] 46)) #[.bool false, .slice A n c, .int .i64 ev, .int .i64 0] 71 (u1.heap.size + 1) (by simp))
    obtain ⟨gv, hgv⟩ : ∃ g, u1.heap.size = g := ⟨_, rfl⟩
    obtain ⟨gx, hgx⟩ : ∃ g, gv + 1 = g := ⟨_, rfl⟩
    rw [hgv, hgx] at hL2
    have hS0 := boxF ((hL2.keep (l' := [pBlk gx #[.bool false, .slice A n c, .int .i64 ev, .int .i64 0] 71, pBlk gv #[.int .i64 2, .bool ng, .int .u64 (mv : Nat), .int .i64 ev] 46, pT (.slice A n c) 128 mv, pBlk w.heap.size #[.bool false, .slice none 0 0, .int .i64 0] 51]) (by simp)).go (Below.refl _ _).drew)
    rw [hgv] at hu1
    rw [hgv, hgx]
    replace hgx := Lib.hid hgx
    clear hL hL1 hL2
    have hS0' := hS0
    obtain ⟨-, -, -, d1, d2, d3⟩ := hS0'
    have hmu := fun (W : World) A2 n2 c2 (h : LiveP w W [pBlk gx #[.bool false, .slice A n c, .int .i64 ev, .int .i64 0] 71, pBlk gv #[.int .i64 2, .bool ng, .int .u64 (mv : Nat), .int .i64 ev] 46, pT (.slice A n c) 128 mv, pBlk w.heap.size #[.bool false, .slice none 0 0, .int .i64 0] 51] ∧ gv < (W).heap.size ∧ gx < (W).heap.size ∧ (W).cell? ⟨gv, 1, none⟩ = some (.bool ng) ∧ (W).cell? ⟨gx, 1, none⟩ = some (.slice A n c) ∧ (W).cell? ⟨gx, 2, none⟩ = some (.int .i64 ev)) (h2 : IsT W (.slice A2 n2 c2) (a + 1) (5 ^ a)) => mulF h h2 ha2 hNe.out
    have hwr : IntKind.i64.wrap (-ev) = -ev := by rw [IntKind.wrap_i64]; omega
    have hpw := fun (W : World) => powF W hpa
    rw [← hwr] at hpw
    clear hwr
    replace hmu := Lib.hid hmu
    replace hpw := Lib.hid hpw
    have hg2 : w.heap.size + 1 ≤ gx := by have := hgx.out; omega
    go_region_held3 (fun w' => gv < (w').heap.size ∧ gx < (w').heap.size ∧ (w').cell? ⟨gv, 1, none⟩ = some (.bool ng) ∧ (w').cell? ⟨gx, 1, none⟩ = some (.slice A n c) ∧ (w').cell? ⟨gx, 2, none⟩ = some (.int .i64 ev)) (first | with_reducible exact hS0.2 | with_reducible assumption | with_reducible exact hF3.2 | with_reducible exact hF4.2 | with_reducible exact hF5.2 | with_reducible exact storedF hF5 hu1 hg2 | fail)
      (first
        | (go_at_call 48; with_reducible refine Calls.mono (hpw.out _) ?_; rintro e w3 ⟨A3, n3, c3, rfl, hv3, hb3⟩; (have hF3 := keepF hS0 hb3))
        | (go_at_call 47; with_reducible refine Calls.mono (hmu.out _ _ _ _ hF3 hv3) ?_; rintro e w4 ⟨A4, n4, c4, rfl, hv4, hb4⟩; (have hF4 := keepF hF3 hb4))
        | (go_at_call 70; with_reducible refine Calls.mono (hdg.out _ _ _ _ hv4) ?_; rintro e w5 ⟨A5, n5, c5, rfl, hv5, hb5⟩; (have hF5 := keepF hF4 hb5); (have hD := hF5.1.get (P := pBlk w.heap.size #[.bool false, .slice none 0 0, .int .i64 0] 51) (by repeat (first | exact List.mem_cons_self | apply List.mem_cons_of_mem))); (obtain ⟨q0, q1, q2⟩ := cells3 hD); (have f0 := hD.free 0); (have f1 := hD.free 1); (have f2 := hD.free 2))
        | fail)
    all_goals
      have hv6 := isT_more hv5 (show 128 + (a + 1) ≤ 5000 by omega)
      have hB6 := hF5.1.below
      obtain ⟨W6, hW6, r6, hk6, hBl⟩ := three_row (b1 := ng) (x1 := A5) (y1 := n5) (z1 := c5) (c1 := E) hD
      rw [hW6]
      obtain ⟨y0, y1, y2⟩ := cells3 r6
      have hv7 := hk6 _ _ _ hv6
      have hB7 := hB6.trans (hBl w.heap.size (Nat.le_refl _))
      clear f0 f1 f2 q0 q1 q2 hD
      go_wp2
      exact bodyPost_ret (v := .tuple #[.agg #[.bool ng, .slice A5 n5 c5, .int .i64 E], .int .i64 0]) (by simp [results, Tryz.results29, go_sem, y0, y1, y2]) rfl ⟨A5, n5, c5, rfl, hv7, hB7⟩
end Go.Proofs.YtncfbleeidjflaaGreatDoor
namespace Go.Proofs.YtncfbleeidjflaaGreatDoor
open Go.RowKit Go.Cal
theorem flQ_le {m : Nat} {e k : Int} (hk : min e 0 ≤ k) : flQ m e k ≤ hasM m e := by
  unfold flQ
  refine Nat.div_le_of_le_mul ?_
  have hB : 0 < flB e k := exP_pos _ _ (by decide)
  refine Nat.le_trans ?_ (Nat.le_mul_of_pos_left (hasM m e) hB)
  unfold flA exP hasM
  by_cases h0 : 0 ≤ e
  · rw [if_pos h0, show (-k).toNat = 0 by omega, Nat.pow_zero, Nat.mul_one]
    exact Nat.mul_le_mul_left _ (Nat.pow_le_pow_right (by decide) (by omega))
  · rw [if_neg h0, show (e - k).toNat = 0 by omega, Nat.pow_zero, Nat.mul_one]
    exact Nat.mul_le_mul_left _ (Nat.pow_le_pow_right (by decide) (by omega))
theorem fl_one {m : Nat} {e k : Int} (hk : k ≤ min e 0) : flA m e k % flB e k = 0 := by
  have : flB e k = 1 := by
    unfold flB exP
    rw [show k.toNat = 0 by omega, show (k - e).toNat = 0 by omega]
  rw [this, Nat.mod_one]
theorem lgS_ge {N : Nat} {t : Int} (hN : 0 < N) : min t 0 ≤ lgS N t := by
  have hb := (bl_pos hN).1
  have hS : exS (bl N) t 0 = (bl N : Int) + t := by unfold exS; simp
  unfold lgS
  rw [hS]
  generalize bl N = b at hb ⊢
  have h2 : min t 0 ≤ (((b : Int) + t + 6) * 30103).tdiv 100000 := by
    rcases Int.le_total 0 (((b : Int) + t + 6) * 30103) with h | h
    · have := Int.tdiv_nonneg h (show (0 : Int) ≤ 100000 by decide); omega
    · have e : (((b : Int) + t + 6) * 30103) = -(-(((b : Int) + t + 6) * 30103)) := by omega
      rw [e, Int.neg_tdiv, Int.tdiv_eq_ediv_of_nonneg (by omega)]
      omega
  split <;> omega
theorem lgV_ge {N : Nat} {t : Int} (h0 : 0 < N) (hN : N < 2 ^ 64) (ht : -2000 ≤ t ∧ t ≤ 2000) : min t 0 ≤ lgV N t := by
  obtain ⟨b1, b2⟩ := lgS_bnd hN ht
  have b3 := lgS_ge (t := t) h0
  obtain ⟨k', h1, h2, h3⟩ := seekL_is h0 (t := t) 6000 (lgS N t) (min t 0) (by omega) (by decide) (by omega) (by omega)
  unfold lgV
  omega
/-- Where the power is low enough there is one. -/
theorem nig_some {id : Int} {neg : Bool} {key : Nat} {mv : Nat} {ev : Int} (hE : mostE id neg = 0) (hk : (key : Int) ≤ mostV id neg) (h0 : fK id ≠ 4 → 0 < key) (hm : magV id 0 key = (mv, ev)) (j : Int) (hj : j ≤ min ev 0) : nigV (limV id neg key) mv ev j ≠ none := by
  have hf := fl_one (m := mv) hj
  have hx := fl_exact hf
  have hh := itv_own (d := flQ mv ev j) (k := j) hE hk h0 (by rw [hm]; exact hx)
  have hr : flR mv ev j = 0 := by unfold flR; rw [if_pos hf]
  unfold nigV
  rw [hr, if_neg (fun h => absurd h.2.1 (by decide)), if_neg (fun h => absurd h.1 (by decide)), if_pos hh]
  intro h; cases h
end Go.Proofs.YtncfbleeidjflaaGreatDoor
