/- The shortest digits: finite, walked. Conditions: the variables that values read. -/
/- All digits of a number, walked. Conditions: the variables that values read. -/
/- Plain: the search for the shortest digits ends; how many digits there are. Conditions: none. -/
/- The shortest digits of a number, walked. Conditions: the variables that values read. -/
/- Print: the text of a pattern, walked. Conditions: the variables that values and words read. -/
/- Plain: what Short and Full tell are right digits. Conditions: none. -/
/- Print, PrintFull: walked. Conditions: the variables that values and words read. -/
/- Rows over print: the map of words out of the row's condition; a start that meets it. Conditions: none. -/
import Derived.Test.YtehpneojiinmdaaGreatDoorTu19
import Derived.Test.YtehpneojiinmdaaGreatDoorTu21
import Derived.Test.YtehpneojiinmdaaGreatDoorTu15
import Derived.Test.YtehpneojiinmdaaGreatDoorTu16
import Derived.Test.YtehpneojiinmdaaGreatDoorTu18
import Derived.Deep.LoopGhost
namespace Go.Proofs.YtehpneojiinmdaaGreatDoor
open Go.RowKit Go.Cal
/-- A number's pattern: what Decode and Key tell of it. -/
structure Fin (id p : Int) (ng : Bool) (K mv : Nat) (ev : Int) : Prop where
  h1 : 1 ≤ id
  h2 : id < 15
  p0 : 0 ≤ p
  p1 : p < 2 ^ (fW id).toNat
  cl : classV id p = 2
  ng : partN id p = ng
  key : partK id p = (K : Int)
  mag : magV id 0 K = (mv, ev)
theorem Fin.dec {id p : Int} {ng : Bool} {K mv : Nat} {ev : Int} (h : Fin id p ng K mv ev) : decN id p = ng ∧ decM id p = mv ∧ decE id p = ev := by
  have hk : (partK id p).toNat = K := by rw [h.key]; rfl
  refine ⟨?_, ?_, ?_⟩
  · unfold decN; rw [if_neg (by rw [h.cl]; decide), h.ng]
  · unfold decM; rw [if_pos h.cl, hk, h.mag]
  · unfold decE; rw [if_pos h.cl, hk, h.mag]
theorem Fin.bnd {id p : Int} {ng : Bool} {K mv : Nat} {ev : Int} (h : Fin id p ng K mv ev) : 0 < mv ∧ mv < 18446744073709551616 ∧ -2000 ≤ ev ∧ ev ≤ 2000 := by
  obtain ⟨x1, x2, x3, x4⟩ := class_two h.h1 h.h2 h.p0 h.p1 h.cl
  have hk := h.key
  obtain ⟨a1, a2, a3, a4, -⟩ := mag_range0 (key := K) h.h1 h.h2 (by omega) (fun h4 => by have := x3 h4; omega)
  rw [h.mag] at a1 a2 a3 a4
  exact ⟨a1, a2, a3, a4⟩
theorem boxes2' (w : World) (a b : Array Value) (t t' : TypeId) : LiveP w ((w.alloc (.cells a t)).alloc (.cells b t')) [pBlk (w.heap.size + 1) b t', pBlk w.heap.size a t] := by
  have hb0 := (Below.refl w.heap.size w).alloc (Nat.le_refl _) (.cells a t)
  have h1 := ((LiveP.start w).go hb0).put (pBlk_st _ _ _) (pBlk_made w a t)
  have h2 := h1.go ((Below.refl _ _).alloc (Nat.le_refl _) (.cells b t'))
  exact h2.put (pBlk_st _ _ _) (pBlk_madeS (w.alloc (.cells a t)) b t' (w.heap.size + 1) (by simp))
set_option maxRecDepth 100000 in
set_option maxHeartbeats 2000000 in
theorem finite_yes {id p : Int} {ng : Bool} {K mv : Nat} {ev : Int} (h : Fin id p ng K mv ev) (w : World) (hW : VaW w) :
    Calls Tryz.prog 79 #[.int .i64 id, .int .u64 p] w fun e w' => ∃ A n c, e = .returned (.tuple #[.agg #[.int .i64 2, .bool ng, .int .u64 (mv : Nat), .int .i64 ev], .agg #[.bool false, .slice A n c, .int .i64 ev, .int .i64 0], .int .i64 0]) ∧ IsT w' (.slice A n c) 128 mv ∧ Below w.heap.size w w' := by
  obtain ⟨d1, d2, d3⟩ := h.dec
  obtain ⟨b1, b2, b3, b4⟩ := h.bnd
  have hdc := fun w hW => vdec_yes id p h.h1 h.h2 h.p0 h.p1 w hW
  rw [h.cl, d1, d2, d3] at hdc
  replace hdc := Lib.hid hdc
  have hof := Lib.hid fun w => xof_fin false mv ev b2 ⟨by omega, by omega⟩ w
  clear h d1 d2 d3 b1 b2 b3 b4
  have hL := boxes2' w #[.int .i64 0, .bool false, .int .u64 0, .int .i64 0] #[.bool false, .slice none 0 0, .int .i64 0, .int .i64 0] 31 52
  go_enter Tryz.func79, Tryz.ntmps79
  go_wp2_with fail
  refine (hdc.out _ (hW.below hL.below)).mono ?_
  rintro e u1 ⟨rfl, hb⟩
  have hu1 : w.heap.size + 1 < u1.heap.size := by have := hb.size; simp at this; omega
  replace hL := ((hL.go hb).go ((Below.refl _ _).alloc (Nat.le_refl _) (.cells #[.int .i64 2, .bool ng, .int .u64 (mv : Nat), .int .i64 ev] 31))).put (pBlk_st _ _ _) (pBlk_made u1 #[.int .i64 2, .bool ng, .int .u64 (mv : Nat), .int .i64 ev] 31)
  clear hb
  go_wp2_with fail
  refine (hof.out _).mono ?_
  rintro e u2 ⟨A, n, c, rfl, hv, hb⟩
  have hal : Below u2.heap.size u2 (u2.alloc (.cells #[.bool false, .slice A n c, .int .i64 ev, .int .i64 0] 52)) := (Below.refl _ _).alloc (Nat.le_refl _) _
  have hbs := hb.size
  replace hv := hv.below hal
  replace hL := ((hL.go hb).go hal).put (pBlk_st _ _ _) (pBlk_made u2 #[.bool false, .slice A n c, .int .i64 ev, .int .i64 0] 52)
  clear hb hal
  have hu2 : u1.heap.size < u2.heap.size := by have := hbs; simp at this; omega
  have p0 := hL.get (P := pBlk w.heap.size #[.int .i64 0, .bool false, .int .u64 0, .int .i64 0] 31) (by repeat (first | exact List.mem_cons_self | apply List.mem_cons_of_mem))
  have p1 := hL.get (P := pBlk (w.heap.size + 1) #[.bool false, .slice none 0 0, .int .i64 0, .int .i64 0] 52) (by repeat (first | exact List.mem_cons_self | apply List.mem_cons_of_mem))
  have p2 := hL.get (P := pBlk u1.heap.size #[.int .i64 2, .bool ng, .int .u64 (mv : Nat), .int .i64 ev] 31) (by repeat (first | exact List.mem_cons_self | apply List.mem_cons_of_mem))
  have p3 := hL.get (P := pBlk u2.heap.size #[.bool false, .slice A n c, .int .i64 ev, .int .i64 0] 52) (by repeat (first | exact List.mem_cons_self | apply List.mem_cons_of_mem))
  have B := hL.below
  have p3' : pBlk u2.heap.size #[.bool false, .slice A n c, .int .i64 ev, .int .i64 0] 52 (u2.alloc (.cells #[.bool false, .slice A n c, .int .i64 ev, .int .i64 0] 52)) := p3
  clear hL hof hdc p3
  obtain ⟨gx, hgx⟩ : ∃ g, u2.heap.size = g := ⟨_, rfl⟩
  rw [hgx] at p3' hu2
  obtain ⟨a0, a1, a2, a3⟩ := cells4 p2
  obtain ⟨b0, b1, b2, b3⟩ := cells4 p3'
  obtain ⟨d0, d1, d2, d3⟩ := cells4 p0
  obtain ⟨e0, e1, e2, e3⟩ := cells4 p1
  have f0 := p0.free 0
  have f1 := p0.free 1
  have f2 := p0.free 2
  have f3 := p0.free 3
  have g0 := p1.free 0
  have g1 := p1.free 1
  have g2 := p1.free 2
  have g3 := p1.free 3
  go_wp2_with fail
  (try rw [hgx])
  obtain ⟨UU, hUU⟩ : ∃ U, u2.alloc (.cells #[.bool false, .slice A n c, .int .i64 ev, .int .i64 0] 52) = U := ⟨_, rfl⟩
  rw [hUU] at a0 a1 a2 a3 b0 b1 b2 b3 d0 d1 d2 d3 e0 e1 e2 e3 f0 f1 f2 f3 g0 g1 g2 g3 p0 p1 p2 p3' B hv ⊢
  clear hUU hgx
  go_region
  all_goals
    obtain ⟨W2, hW2, r0, r1, hk, hB⟩ := two_rows p0 p1 (by omega) (noU4 _ _ _ _ _ _) (.int .i64 2) (.bool ng) (.int .u64 (mv : Nat)) (.int .i64 ev) (.bool false) (.slice A n c) (.int .i64 ev) (.int .i64 0)
    rw [hW2]
    clear a0 a1 a2 a3 b0 b1 b2 b3 d0 d1 d2 d3 e0 e1 e2 e3 f0 f1 f2 f3 g0 g1 g2 g3
    obtain ⟨s0, s1, s2, s3⟩ := cells4 r0
    obtain ⟨t0, t1, t2, t3⟩ := cells4 r1
    have hfin := (B.trans (hB w.heap.size (Nat.le_refl _) (by omega))).trans (Below.refl _ _).drew
    have hvf := (hk _ _ _ hv).below (Below.refl _ _).drew
    go_wp2
    exact bodyPost_ret (v := .tuple #[.agg #[.int .i64 2, .bool ng, .int .u64 (mv : Nat), .int .i64 ev], .agg #[.bool false, .slice A n c, .int .i64 ev, .int .i64 0], .int .i64 0]) (by simp [results, Tryz.results79, go_sem, s0, s1, s2, s3, t0, t1, t2, t3]) rfl ⟨A, n, c, rfl, hvf, hfin⟩
end Go.Proofs.YtehpneojiinmdaaGreatDoor
namespace Go.Proofs.YtehpneojiinmdaaGreatDoor
open Go.RowKit Go.Cal
theorem lt_powF {N e f : Nat} (h : N < 10 ^ e) (he : e ≤ f) : N < 10 ^ f := Nat.lt_of_lt_of_le h (Nat.pow_le_pow_right (by decide) he)
section
variable {w W W' : World} {A : Option Addr} {n c mv gv gx : Nat} {ng : Bool} {ev : Int}
end
end Go.Proofs.YtehpneojiinmdaaGreatDoor
namespace Go.Proofs.YtehpneojiinmdaaGreatDoor
open Go.RowKit Go.Cal
theorem flQ_le {m : Nat} {e k : Int} (hk : min e 0 ≤ k) : flQ m e k ≤ hasM m e := by
  unfold flQ
  refine Nat.div_le_of_le_mul ?_
  have hB : 0 < flB e k := exP_pos _ _ (by decide)
  refine Nat.le_trans ?_ (Nat.le_mul_of_pos_left (hasM m e) hB)
  unfold flA exP hasM
  by_cases h0 : 0 ≤ e
  · rw [if_pos h0, show (-k).toNat = 0 by omega, Nat.pow_zero, Nat.mul_one]
    exact Nat.mul_le_mul_left _ (Nat.pow_le_pow_right (by decide) (by omega))
  · rw [if_neg h0, show (e - k).toNat = 0 by omega, Nat.pow_zero, Nat.mul_one]
    exact Nat.mul_le_mul_left _ (Nat.pow_le_pow_right (by decide) (by omega))
theorem fl_one {m : Nat} {e k : Int} (hk : k ≤ min e 0) : flA m e k % flB e k = 0 := by
  have : flB e k = 1 := by
    unfold flB exP
    rw [show k.toNat = 0 by omega, show (k - e).toNat = 0 by omega]
  rw [this, Nat.mod_one]
theorem lgS_ge {N : Nat} {t : Int} (hN : 0 < N) : min t 0 ≤ lgS N t := by
  have hb := (bl_pos hN).1
  have hS : exS (bl N) t 0 = (bl N : Int) + t := by unfold exS; simp
  unfold lgS
  rw [hS]
  generalize bl N = b at hb ⊢
  have h2 : min t 0 ≤ (((b : Int) + t + 6) * 30103).tdiv 100000 := by
    rcases Int.le_total 0 (((b : Int) + t + 6) * 30103) with h | h
    · have := Int.tdiv_nonneg h (show (0 : Int) ≤ 100000 by decide); omega
    · have e : (((b : Int) + t + 6) * 30103) = -(-(((b : Int) + t + 6) * 30103)) := by omega
      rw [e, Int.neg_tdiv, Int.tdiv_eq_ediv_of_nonneg (by omega)]
      omega
  split <;> omega
theorem lgV_ge {N : Nat} {t : Int} (h0 : 0 < N) (hN : N < 2 ^ 64) (ht : -2000 ≤ t ∧ t ≤ 2000) : min t 0 ≤ lgV N t := by
  obtain ⟨b1, b2⟩ := lgS_bnd hN ht
  have b3 := lgS_ge (t := t) h0
  obtain ⟨k', h1, h2, h3⟩ := seekL_is h0 (t := t) 6000 (lgS N t) (min t 0) (by omega) (by decide) (by omega) (by omega)
  unfold lgV
  omega
/-- Where the power is low enough there is one. -/
theorem nig_some {id : Int} {neg : Bool} {key : Nat} {mv : Nat} {ev : Int} (hE : mostE id neg = 0) (hk : (key : Int) ≤ mostV id neg) (h0 : fK id ≠ 4 → 0 < key) (hm : magV id 0 key = (mv, ev)) (j : Int) (hj : j ≤ min ev 0) : nigV (limV id neg key) mv ev j ≠ none := by
  have hf := fl_one (m := mv) hj
  have hx := fl_exact hf
  have hh := itv_own (d := flQ mv ev j) (k := j) hE hk h0 (by rw [hm]; exact hx)
  have hr : flR mv ev j = 0 := by unfold flR; rw [if_pos hf]
  unfold nigV
  rw [hr, if_neg (fun h => absurd h.2.1 (by decide)), if_neg (fun h => absurd h.1 (by decide)), if_pos hh]
  intro h; cases h
end Go.Proofs.YtehpneojiinmdaaGreatDoor
namespace Go.Proofs.YtehpneojiinmdaaGreatDoor
open Go.RowKit Go.Cal
theorem lim_bnd {id : Int} {ng : Bool} {K : Nat} (h1 : 1 ≤ id) (h2 : id < 15) (hk : (K : Int) ≤ fitM id) : (-5000 ≤ (limV id ng K).lowT ∧ (limV id ng K).lowT ≤ 5000) ∧ (-5000 ≤ (limV id ng K).highT ∧ (limV id ng K).highT ≤ 5000) := by
  obtain ⟨-, -, a3, a4, -⟩ := mag_range (key := K - 1) h1 h2 (by omega)
  obtain ⟨-, -, b3, b4, -⟩ := mag_range (key := K) h1 h2 hk
  constructor
  · show -5000 ≤ (if limF id ≤ K then _ else _) ∧ (if limF id ≤ K then _ else _) ≤ 5000
    split
    · exact ⟨a3, a4⟩
    · decide
  · show -5000 ≤ (if limH id ng K = true then _ else _) ∧ (if limH id ng K = true then _ else _) ≤ 5000
    split
    · exact ⟨b3, b4⟩
    · decide
theorem pBlk_oth {h g i : Nat} {cs : Array Value} {t : TypeId} {w : World} {v : Value} (hp : pBlk h cs t w) (hne : h ≠ g) : pBlk h cs t (w.setCell ⟨g, i, none⟩ v) := by
  unfold pBlk at hp ⊢
  unfold World.setCell
  simp only [Array.getElem?_modify]
  rw [if_neg (fun e => hne e.symm)]
  exact hp
theorem World.cell?_setCell_otherB (w : World) (g i h : Nat) (v : Value) (hne : h ≠ g) (o : Nat) : (w.setCell ⟨g, i, none⟩ v).cell? ⟨h, o, none⟩ = w.cell? ⟨h, o, none⟩ :=
  World.cell?_setCell_other _ _ _ _ (fun e => hne (by injection e with e; exact e.symm))
/-- What Short tells. -/
def shortV (i : Itv) (mv : Nat) (ev : Int) (F : Nat) : Nat × Int := stripV F (seekV i mv ev 3000 (lgV mv ev)).1 (seekV i mv ev 3000 (lgV mv ev)).2
theorem lt_powS {N e f : Nat} (h : N < 10 ^ e) (he : e ≤ f) : N < 10 ^ f := Nat.lt_of_lt_of_le h (Nat.pow_le_pow_right (by decide) he)
theorem hasM_bnd {m F : Nat} {e : Int} (hm : m < 18446744073709551616) (he : -2000 ≤ e ∧ e ≤ 2000) (hF : 1991 ≤ F) : hasM m e + 1 < 10 ^ F ∧ hasM m e + 1 < 18446744073709551616 ^ 128 := by
  have h1 := numV_lt (Lib.decDigits (hasM m e)) (dec_digs _)
  rw [numV_dec] at h1
  have h2 : ∀ G, 1991 ≤ G → hasM m e + 1 < 10 ^ G := by
    intro G hG
    have h3 := lt_powS h1 (has_len hm he).1
    obtain ⟨f, rfl⟩ : ∃ f, G = f + 1 := ⟨G - 1, by omega⟩
    have h4 := lt_powS h3 (show 1990 ≤ f by omega)
    rw [Nat.pow_succ]
    omega
  refine ⟨h2 F hF, ?_⟩
  have h5 := h2 2000 (by decide)
  exact num_bigX (by decide) h5
set_option maxRecDepth 100000 in
set_option maxHeartbeats 4000000 in
theorem short_yes {id p : Int} {ng : Bool} {K mv : Nat} {ev : Int} (h : Fin id p ng K mv ev) (w : World) (hW : VaW w) (F : Nat) (hF : F ≤ 3000) (hF0 : 2000 ≤ F) (mm : Nat) (hm1 : 12178 ≤ mm) (hm2 : mm ≤ 1000000) :
    Calls Tryz.prog 78 #[.int .i64 id, .int .u64 p] w fun e w' => ∃ A n c, e = .returned (.tuple #[.agg #[.bool ng, .slice A n c, .int .i64 (shortV (limV id ng K) mv ev F).2], .int .i64 0]) ∧ IsT w' (.slice A n c) (mm + 1) (shortV (limV id ng K) mv ev F).1 ∧ Below w.heap.size w w' := by
  have hfi := Lib.hid fun w hW => finite_yes h w hW
  have hlm := fun w hW => rlimits_yes id p h.h1 h.h2 h.p0 h.p1 h.cl K h.key w hW
  rw [h.ng] at hlm
  obtain ⟨i, hi⟩ : ∃ i, limV id ng K = i := ⟨_, rfl⟩
  rw [hi] at hlm
  obtain ⟨lN, lT, hN, hT, evn⟩ := i
  simp only at hlm
  replace hlm := Lib.hid hlm
  obtain ⟨b1, b2, b3, b4⟩ := h.bnd
  obtain ⟨x1, x2, x3, x4⟩ := class_two h.h1 h.h2 h.p0 h.p1 h.cl
  rw [h.key] at x1 x2 x3
  rw [h.ng] at x2 x4
  have hE : mostE id ng = 0 := by
    have a1 := h.h1
    have a2 := h.h2
    unfold mostE
    rw [if_neg (by omega), if_neg (fun h => x4 h.1 h.2)]
  have hK0 : fK id ≠ 4 → 0 < K := fun h4 => by have := x3 h4; omega
  obtain ⟨lb1, lb2⟩ := lim_bnd (ng := ng) h.h1 h.h2 x1
  rw [hi] at lb1 lb2
  simp only at lb1 lb2
  have hns := nig_some hE x2 hK0 h.mag
  rw [hi] at hns
  obtain ⟨kx, hkx⟩ : ∃ kx, min ev 0 = kx := ⟨_, rfl⟩
  obtain ⟨lg, hlgv⟩ : ∃ lg, lgV mv ev = lg := ⟨_, rfl⟩
  have hlb := lgV_bnd b1 (by simpa using b2) ⟨b3, b4⟩
  have hlb2 := lgV_ge b1 (by simpa using b2) ⟨b3, b4⟩
  rw [hlgv] at hlb hlb2
  rw [hkx] at hlb2 hns
  obtain ⟨R, hR⟩ : ∃ R, seekV ⟨lN, lT, hN, hT, evn⟩ mv ev 3000 lg = R := ⟨_, rfl⟩
  have hlg := fun (W : World) A n c (hv : IsT W (.slice A n c) 128 mv) => xlog_any false ev hv b1 (by simpa using b2) ⟨b3, b4⟩
  rw [hlgv] at hlg
  obtain ⟨hlb, hlb'⟩ := hlb
  obtain ⟨hMF, hMb⟩ := hasM_bnd b2 ⟨b3, b4⟩ (show 1991 ≤ F by omega)
  have hnr := fun (W : World) Al nl cl Ah nh ch A n c (k : Int) (hl : IsT W (.slice Al nl cl) 128 lN) (hh : IsT W (.slice Ah nh ch) 128 hN) (hx : IsT W (.slice A n c) 128 mv) (hk : -5000 ≤ k ∧ k ≤ 5000) (hq : flQ mv ev k + 1 < 18446744073709551616 ^ 128) =>
    near_any mm (by omega) (by omega) ⟨lN, lT, hN, hT, evn⟩ ev k hl hh hx lb1 lb2 ⟨by omega, by omega⟩ hk hq
  have hSV : shortV (limV id ng K) mv ev F = stripV F R.1 R.2 := by unfold shortV; rw [hi, hlgv, hR]
  rw [hSV]
  replace hMF := Lib.hid hMF
  replace hMb := Lib.hid hMb
  replace hnr := Lib.hid hnr
  replace hi := Lib.hid hi
  replace hlg := Lib.hid hlg
  replace hR := Lib.hid hR
  replace hns := Lib.hid hns
  clear x1 x2 x3 x4 hE hK0 h
  have hb0 := (Below.refl w.heap.size w).alloc (Nat.le_refl _) (.cells #[.bool false, .slice none 0 0, .int .i64 0] 81)
  have hL := ((LiveP.start w).go hb0).put (pBlk_st _ _ _) (pBlk_made w #[.bool false, .slice none 0 0, .int .i64 0] 81)
  clear hb0
  go_enter Tryz.func78, Tryz.ntmps78
  go_wp2_with fail
  refine (hfi.out _ (hW.below hL.below)).mono ?_
  rintro e u1 ⟨A, n, c, rfl, hv, hb⟩
  have hu1 := hb.size
  simp at hu1
  replace hL := (hL.go hb).put (pT_st _ _ _) hv
  have hL1 := (hL.go ((Below.refl _ _).alloc (Nat.le_refl _) (.cells #[.int .i64 2, .bool ng, .int .u64 (mv : Nat), .int .i64 ev] 31))).put (pBlk_st _ _ _) (pBlk_made u1 #[.int .i64 2, .bool ng, .int .u64 (mv : Nat), .int .i64 ev] 31)
  have hL2 := (hL1.go ((Below.refl _ _).alloc (Nat.le_refl _) (.cells #[.bool false, .slice A n c, .int .i64 ev, .int .i64 0] 52))).put (pBlk_st _ _ _) (pBlk_madeS (u1.alloc (.cells #[.int .i64 2, .bool ng, .int .u64 (mv : Nat), .int .i64 ev] 31)) #[.bool false, .slice A n c, .int .i64 ev, .int .i64 0] 52 (u1.heap.size + 1) (by simp))
  have hL3 := (hL2.go ((Below.refl _ _).alloc (Nat.le_refl _) (.cells #[.bool false, .slice none 0 0, .int .i64 0, .int .i64 0, .bool false, .slice none 0 0, .int .i64 0, .int .i64 0, .bool false] 200))).put (pBlk_st _ _ _) (pBlk_madeS ((u1.alloc (.cells #[.int .i64 2, .bool ng, .int .u64 (mv : Nat), .int .i64 ev] 31)).alloc (.cells #[.bool false, .slice A n c, .int .i64 ev, .int .i64 0] 52)) #[.bool false, .slice none 0 0, .int .i64 0, .int .i64 0, .bool false, .slice none 0 0, .int .i64 0, .int .i64 0, .bool false] 200 (u1.heap.size + 2) (by simp))
  clear hb hv hL hL1 hL2
  go_wp2_with fail
  refine (hlm.out _ (hW.below hL3.below)).mono ?_
  rintro e u2 ⟨Al, nl, cl, Ah, nh, ch, rfl, hvl, hvh, hb⟩
  replace hL := ((hL3.go hb).put (pT_st _ _ _) hvl).put (pT_st _ _ _) hvh
  clear hb hL3 hvl hvh
  obtain ⟨gv, hgv⟩ : ∃ g, u1.heap.size = g := ⟨_, rfl⟩
  rw [hgv] at hL hu1 ⊢
  have pI := hL.get (P := pBlk (gv + 2) #[.bool false, .slice none 0 0, .int .i64 0, .int .i64 0, .bool false, .slice none 0 0, .int .i64 0, .int .i64 0, .bool false] 200) (by repeat (first | exact List.mem_cons_self | apply List.mem_cons_of_mem))
  have pV := hL.get (P := pBlk gv #[.int .i64 2, .bool ng, .int .u64 (mv : Nat), .int .i64 ev] 31) (by repeat (first | exact List.mem_cons_self | apply List.mem_cons_of_mem))
  have pX := hL.get (P := pBlk (gv + 1) #[.bool false, .slice A n c, .int .i64 ev, .int .i64 0] 52) (by repeat (first | exact List.mem_cons_self | apply List.mem_cons_of_mem))
  have pD := hL.get (P := pBlk w.heap.size #[.bool false, .slice none 0 0, .int .i64 0] 81) (by repeat (first | exact List.mem_cons_self | apply List.mem_cons_of_mem))
  have hv := hL.get (P := pT (.slice A n c) 128 mv) (by repeat (first | exact List.mem_cons_self | apply List.mem_cons_of_mem))
  have hvl := hL.get (P := pT (.slice Al nl cl) 128 lN) (by repeat (first | exact List.mem_cons_self | apply List.mem_cons_of_mem))
  have hvh := hL.get (P := pT (.slice Ah nh ch) 128 hN) (by repeat (first | exact List.mem_cons_self | apply List.mem_cons_of_mem))
  have B := hL.below
  have hno : ∀ x ∈ (#[.bool false, .slice none 0 0, .int .i64 0, .int .i64 0, .bool false, .slice none 0 0, .int .i64 0, .int .i64 0, .bool false] : Array Value).toList, ∀ n, x ≠ .int .u64 n := by simp
  have hno1 : ∀ x ∈ (#[.bool false, .slice Al nl cl, .int .i64 lT, .int .i64 0, .bool false, .slice none 0 0, .int .i64 0, .int .i64 0, .bool false] : Array Value).toList, ∀ n, x ≠ .int .u64 n := by simp
  clear hL
  go_wp2_with (first
    | ((with_reducible show wpList _ _ _ (Oper.mk _ (Op.store 52 _ _) _ _ _ _ :: _) _ _); refine wpList_store_part4 _ rfl 52 _ _ rfl (gv + 2) 0 (.bool false) (.slice Al nl cl) (.int .i64 lT) (.int .i64 0) #[.bool false, .slice none 0 0, .int .i64 0, .int .i64 0, .bool false, .slice none 0 0, .int .i64 0, .int .i64 0, .bool false] #[.bool false, .slice Al nl cl, .int .i64 lT, .int .i64 0, .bool false, .slice none 0 0, .int .i64 0, .int .i64 0, .bool false] 200 rfl rfl pI (by simp) exact_size (by simp [Value.oneCell']) hno (by simp) (by simp) (by simp) rfl ?_; intro u3 pI3 hb3 hz3 hk3 ho3)
    | ((with_reducible show wpList _ _ _ (Oper.mk _ (Op.store 52 _ _) _ _ _ _ :: _) _ _); refine wpList_store_part4 _ rfl 52 _ _ rfl (gv + 2) 4 (.bool false) (.slice Ah nh ch) (.int .i64 hT) (.int .i64 0) #[.bool false, .slice Al nl cl, .int .i64 lT, .int .i64 0, .bool false, .slice none 0 0, .int .i64 0, .int .i64 0, .bool false] #[.bool false, .slice Al nl cl, .int .i64 lT, .int .i64 0, .bool false, .slice Ah nh ch, .int .i64 hT, .int .i64 0, .bool false] 200 rfl rfl pI3 (by simp) exact_size (by simp [Value.oneCell']) hno1 (by simp) (by simp) (by simp) rfl ?_; intro u4 pI4 hb4 hz4 hk4 ho4; have e8 := pI4.cell 8 _ rfl; have ef := pI4.free 8; have pX4 := ho4 _ _ _ (by omega) (ho3 _ _ _ (by omega) pX); have hX5 := World.cell?_setCell_otherB u4 (gv + 1 + 1) 8 (gv + 1) (.bool evn) (by omega); obtain ⟨x0, x1, x2, x3⟩ := cells4 pX4))
  have pI5 : pBlk (gv + 2) #[.bool false, .slice Al nl cl, .int .i64 lT, .int .i64 0, .bool false, .slice Ah nh ch, .int .i64 hT, .int .i64 0, .bool evn] 200 (u4.setCell ⟨gv + 1 + 1, 8, none⟩ (.bool evn)) := pBlk.setX pI4 8 (.bool evn)
  have hno2 : ∀ x ∈ (#[.bool false, .slice Al nl cl, .int .i64 lT, .int .i64 0, .bool false, .slice Ah nh ch, .int .i64 hT, .int .i64 0, .bool false] : Array Value).toList, ∀ n, x ≠ .int .u64 n := by simp
  have kU : ∀ v k N, IsT u2 v k N → IsT (u4.setCell ⟨gv + 1 + 1, 8, none⟩ (.bool evn)) v k N := fun v k N h => IsT.apartX (hk4 _ _ _ (hk3 _ _ _ h)) pI4 hno2
  have oU : ∀ h cs t, h ≠ gv + 2 → pBlk h cs t u2 → pBlk h cs t (u4.setCell ⟨gv + 1 + 1, 8, none⟩ (.bool evn)) := fun h cs t hne hp => pBlk_oth (ho4 _ _ _ hne (ho3 _ _ _ hne hp)) hne
  have BU : Below w.heap.size w (u4.setCell ⟨gv + 1 + 1, 8, none⟩ (.bool evn)) := ((B.trans (hb3.mono (by omega))).trans (hb4.mono (by omega))).setCell (p := ⟨gv + 1 + 1, 8, none⟩) (by simp; omega) _
  obtain ⟨U, hU⟩ : ∃ U, u4.setCell ⟨gv + 1 + 1, 8, none⟩ (.bool evn) = U := ⟨_, rfl⟩
  rw [hU] at pI5 kU oU BU ⊢
  have hL := ((((((((⟨BU, fun p hp => by simp at hp⟩ : LiveP w U []).put (pT_st _ _ _) (kU _ _ _ hv)).put (pT_st _ _ _) (kU _ _ _ hvl)).put (pT_st _ _ _) (kU _ _ _ hvh)).put (pBlk_st _ _ _) (oU _ _ _ (by omega) pD)).put (pBlk_st _ _ _) (oU _ _ _ (by omega) pV)).put (pBlk_st _ _ _) (oU _ _ _ (by omega) pX)).put (pBlk_st _ _ _) pI5)
  clear pI pV pX pD hv hvl hvh B pI3 hb3 hz3 hk3 ho3 pI4 hb4 hz4 hk4 ho4 e8 ef pX4 x0 x1 x2 x3 pI5 kU oU BU hU hno hno1 hno2
  refine (hlg.out _ _ _ _ (hL.get (P := pT (.slice A n c) 128 mv) (by repeat (first | exact List.mem_cons_self | apply List.mem_cons_of_mem)))).mono ?_
  rintro e u5 ⟨rfl, hb⟩
  replace hL := hL.go hb
  clear hb
  go_wp2_with fail
  go_loopg [10] 3000 (fun g kv wr => ∃ k : Int, kv = .int .i64 k ∧ seekV ⟨lN, lT, hN, hT, evn⟩ mv ev g k = R ∧ kx ≤ k ∧ k ≤ 700 ∧ k - kx < g ∧ LiveP w wr [pBlk (gv + 2) #[.bool false, .slice Al nl cl, .int .i64 lT, .int .i64 0, .bool false, .slice Ah nh ch, .int .i64 hT, .int .i64 0, .bool evn] 200, pBlk (gv + 1) #[.bool false, .slice A n c, .int .i64 ev, .int .i64 0] 52, pBlk gv #[.int .i64 2, .bool ng, .int .u64 (mv : Nat), .int .i64 ev] 31, pBlk w.heap.size #[.bool false, .slice none 0 0, .int .i64 0] 81, pT (.slice Ah nh ch) 128 hN, pT (.slice Al nl cl) 128 lN, pT (.slice A n c) 128 mv])
  case atStart => exact ⟨lg, rfl, hR.out, by omega, by omega, by omega, hL.keep (by simp)⟩
  case round =>
    obtain ⟨k, rfl, hsk, hk1, hk2, hk3, hL⟩ := hrel
    have pX := hL.get (P := pBlk (gv + 1) #[.bool false, .slice A n c, .int .i64 ev, .int .i64 0] 52) (by repeat (first | exact List.mem_cons_self | apply List.mem_cons_of_mem))
    have pI := hL.get (P := pBlk (gv + 2) #[.bool false, .slice Al nl cl, .int .i64 lT, .int .i64 0, .bool false, .slice Ah nh ch, .int .i64 hT, .int .i64 0, .bool evn] 200) (by repeat (first | exact List.mem_cons_self | apply List.mem_cons_of_mem))
    obtain ⟨x0, x1, x2, x3⟩ := cells4 pX
    have r0 := pI.cell 0 _ rfl
    have r1 := pI.cell 1 _ rfl
    have r2 := pI.cell 2 _ rfl
    have r3 := pI.cell 3 _ rfl
    have r4 := pI.cell 4 _ rfl
    have r5 := pI.cell 5 _ rfl
    have r6 := pI.cell 6 _ rfl
    have r7 := pI.cell 7 _ rfl
    have r8 := pI.cell 8 _ rfl
    go_wp2_with fail
    have hqb : flQ mv ev k + 1 < 18446744073709551616 ^ 128 := by
      have h5 : flQ mv ev k ≤ hasM mv ev := flQ_le (by omega)
      exact Nat.lt_of_le_of_lt (Nat.succ_le_succ h5) hMb.out
    refine (hnr.out _ _ _ _ _ _ _ _ _ _ k (hL.get (P := pT (.slice Al nl cl) 128 lN) (by repeat (first | exact List.mem_cons_self | apply List.mem_cons_of_mem))) (hL.get (P := pT (.slice Ah nh ch) 128 hN) (by repeat (first | exact List.mem_cons_self | apply List.mem_cons_of_mem))) (hL.get (P := pT (.slice A n c) 128 mv) (by repeat (first | exact List.mem_cons_self | apply List.mem_cons_of_mem))) ⟨by omega, by omega⟩ hqb).mono ?_
    rintro e w7 ⟨A7, n7, c7, rfl, hok, hb⟩
    replace hL := hL.go hb
    clear hb pX pI x0 x1 x2 x3 r0 r1 r2 r3 r4 r5 r6 r7 r8
    obtain ⟨g, rfl⟩ : ∃ g, gk = g + 1 := ⟨gk - 1, by omega⟩
    unfold seekV at hsk
    cases hnk : nigV ⟨lN, lT, hN, hT, evn⟩ mv ev k with
    | none =>
      have hkx3 : kx < k := Classical.byContradiction fun h' => hns.out k (by omega) hnk
      (try rw [hnk] at hsk)
      (try rw [hnk] at hok)
      replace hsk := Lib.hid hsk
      clear hok
      go_wp2
      go_roundg g
      case measure => omega
      case rel => exact ⟨k - 1, rfl, hsk.out, by omega, by omega, by omega, hL⟩
    | some d =>
      have hd0 := itv_pos (nearV_some hnk).1
      have hdb : d < 10 ^ F := by
        have h5 : flQ mv ev k ≤ hasM mv ev := flQ_le (by omega)
        have h6 := hMF.out
        rcases (nearV_some hnk).2 with h7 | ⟨h7, -⟩ <;> omega
      (try rw [hnk] at hsk)
      (try rw [hnk] at hok)
      replace hok := hok d rfl
      simp only at hsk
      subst hsk
      have hdg := fun (W : World) (h : IsT W (.slice A7 n7 c7) (mm + 1) d) => digits_any ng k h (by omega) hd0 F hF hdb ⟨by omega, by omega⟩
      obtain ⟨DD, EE, hSD⟩ : ∃ a b, stripV F d k = (a, b) := ⟨_, _, rfl⟩
      rw [hSD] at hdg
      replace hSD := Lib.hid hSD
      replace hdg := Lib.hid hdg
      clear hdb hnk
      have pV := hL.get (P := pBlk gv #[.int .i64 2, .bool ng, .int .u64 (mv : Nat), .int .i64 ev] 31) (by repeat (first | exact List.mem_cons_self | apply List.mem_cons_of_mem))
      have v1 := pV.cell 1 _ rfl
      go_wp2_with fail
      refine (hdg.out _ hok).mono ?_
      rintro e w8 ⟨A8, n8, c8, rfl, hv8, hb⟩
      have hD := (hL.go hb).get (P := pBlk w.heap.size #[.bool false, .slice none 0 0, .int .i64 0] 81) (by repeat (first | exact List.mem_cons_self | apply List.mem_cons_of_mem))
      have hB8 := (hL.go hb).below
      obtain ⟨q0, q1, q2⟩ := cells3 hD
      have f0 := hD.free 0
      have f1 := hD.free 1
      have f2 := hD.free 2
      obtain ⟨W6, hW6, r6, hk6, hBl⟩ := three_row (b1 := ng) (x1 := A8) (y1 := n8) (z1 := c8) (c1 := EE) hD
      obtain ⟨y0, y1, y2⟩ := cells3 r6
      have hv9 := hk6 _ _ _ hv8
      have hB9 := hB8.trans (hBl w.heap.size (Nat.le_refl _))
      clear hb v1 pV
      go_wp2
      (try rw [hW6])
      rw [hSD.out]
      exact bodyPost_ret (v := .tuple #[.agg #[.bool ng, .slice A8 n8 c8, .int .i64 EE], .int .i64 0]) (by simp [results, Tryz.results78, go_sem, y0, y1, y2]) rfl ⟨A8, n8, c8, rfl, hv9, hB9⟩
end Go.Proofs.YtehpneojiinmdaaGreatDoor
namespace Go.Proofs.YtehpneojiinmdaaGreatDoor
open Go.RowKit Go.Cal
/-- What is not told in digits. -/
def wrdT (c : Int) : List UInt8 := if c = 1 then [48] else if c = 3 then [105, 110, 102] else [110, 97, 110]
/-- The table of words stands in its variable. -/
def WrdW (w : World) : Prop := 3 < w.heap.size ∧ ∃ mv, w.cell? ⟨3, 0, none⟩ = some mv ∧ ∀ wr, Below w.heap.size w wr → ∀ c : Int, (c = 1 ∨ c = 3 ∨ c = 4) → (Instr.lookup 153 mv (.int .i64 c) false).run Tryz.prog wr = .ok (.string (strL (wrdT c))) wr
theorem WrdW.below {w w' : World} (h : WrdW w) (hb : Below w.heap.size w w') : WrdW w' := by
  obtain ⟨h1, mv, h2, h3⟩ := h
  exact ⟨Nat.lt_of_lt_of_le h1 hb.size, mv, by rw [(bcell hb).1 _ _ h1]; exact h2, fun wr hr => h3 wr (hb.trans (hr.mono hb.size))⟩
theorem WrdW.out {w : World} (h : WrdW w) {c : Int} (hc : c = 1 ∨ c = 3 ∨ c = 4) : 3 < w.heap.size ∧ ∃ mv, w.cell? ⟨3, 0, none⟩ = some mv ∧ ∀ wr, Below w.heap.size w wr → (Instr.lookup 153 mv (.int .i64 c) false).run Tryz.prog wr = .ok (.string (strL (wrdT c))) wr := by
  obtain ⟨h1, mv, h2, h3⟩ := h
  exact ⟨h1, mv, h2, fun wr hr => h3 wr hr c hc⟩
/-- The variables that print reads. -/
structure PrW (w : World) : Prop where
  va : VaW w
  tab : Tab10 w
  wrd : WrdW w
theorem PrW.below {w w' : World} (h : PrW w) (hb : Below w.heap.size w w') : PrW w' := ⟨h.va.below hb, h.tab.below hb, h.wrd.below hb⟩
theorem right_lt {N : Nat} {k : Int} (h : DRight N k) : N < 18446744073709551616 ^ 128 := by
  rcases h with ⟨rfl, _⟩ | ⟨_, _, h, _⟩
  · exact Nat.pow_pos (by decide)
  · have h1 := numV_lt (Lib.decDigits N) (dec_digs _)
    rw [numV_dec] at h1
    exact Nat.lt_of_lt_of_le (lt_powF h1 h) (by decide +kernel)
set_option maxRecDepth 100000 in
set_option maxHeartbeats 4000000 in
theorem told_no (k : Nat) (id p : Int) (hp0 : 0 ≤ p) (hp1 : p < 18446744073709551616) (hf : fitsV id p ≠ 0) (w : World) (hW : PrW w) :
    Calls Tryz.prog 49 #[.int .i64 id, .int .u64 p, .func (.func k) #[] #[]] w fun e w' => e = .returned (.tuple #[.string (strL []), .int .i64 (fitsV id p)]) ∧ Below w.heap.size w w' := by
  have hdc := Lib.hid fun w (hW : PrW w) => vdec_no id p hp0 hp1 hf w hW.va
  have hff : (fitsV id p != 0) = true := by simp [hf]
  generalize fitsV id p = E at hdc hff ⊢
  clear hf
  go_enter Tryz.func49, Tryz.ntmps49
  go_wp2_with fail
  refine (hdc.out _ hW).mono ?_
  rintro e w1 ⟨rfl, hb⟩
  go_wp2_with fail
  go_ret2
  exact ⟨(by first | rfl | trivial), hb.alloc hb.size _⟩
set_option maxRecDepth 100000 in
set_option maxHeartbeats 4000000 in
theorem told_fin_short {id p : Int} {ng : Bool} {K mv : Nat} {ev : Int} (h : Fin id p ng K mv ev) (w : World) (hW : PrW w) (r : Nat × Int) (hr : shortV (limV id ng K) mv ev 2000 = r) (hR : DRight r.1 r.2) :
    Calls Tryz.prog 49 #[.int .i64 id, .int .u64 p, .func (.func 78) #[] #[]] w fun e w' => e = .returned (.tuple #[.string (strL (lyT ng r.1 r.2)), .int .i64 0]) ∧ Below w.heap.size w w' := by
  obtain ⟨d1, d2, d3⟩ := h.dec
  have hdc := Lib.hid fun w (hW : PrW w) => vdec_yes id p h.h1 h.h2 h.p0 h.p1 w hW.va
  rw [d1, d2, d3, h.cl] at hdc
  have hsh := Lib.hid fun w (hW : PrW w) => short_yes h w hW.va 2000 (by decide) (by decide) 13000 (by decide) (by decide)
  rw [hr] at hsh
  clear d1 d2 d3 hr h
  obtain ⟨D, E⟩ := r
  go_enter Tryz.func49, Tryz.ntmps49
  go_wp2_with fail
  refine (hdc.out _ hW).mono ?_
  rintro e w1 ⟨rfl, hb⟩
  go_wp2_with fail
  have hB1 : Below w.heap.size w (w1.alloc (.cells #[.int .i64 2, .bool ng, .int .u64 (mv : Nat), .int .i64 ev] 31)) := hb.alloc hb.size _
  refine (hsh.out _ (hW.below hB1)).mono ?_
  rintro e w2 ⟨A, n, c, rfl, hv, hb2⟩
  have hB2 := hB1.trans (hb2.mono hB1.size)
  clear hb hb2
  go_wp2_with fail
  have hB3 : Below w.heap.size w (w2.alloc (.cells #[.bool ng, .slice A n c, .int .i64 E] 81)) := hB2.alloc hB2.size _
  have hv3 := isT_fitX (hv.below ((Below.refl _ _).alloc (Nat.le_refl _) (.cells #[.bool ng, .slice A n c, .int .i64 E] 81))) (right_lt hR)
  refine (layout_any ng E (hW.tab.below hB3) hv3).mono ?_
  rintro e w4 ⟨rfl, hb4⟩
  go_wp2_with fail
  go_ret2
  refine ⟨?_, hB3.trans (hb4.mono hB3.size)⟩
  unfold lyR
  rw [if_pos hR]
  rfl
theorem wrdT_len (c : Int) : (wrdT c).length ≤ 3 := by
  unfold wrdT
  split
  · simp
  · split <;> simp
theorem neg_cat (l : List UInt8) : (⟨#[45]⟩ : ByteArray) ++ strL l = strL (45 :: l) := by
  unfold strL
  refine ByteArray.ext ?_
  simp
/-- The text of what is no number, or 0. -/
def nfT (id p : Int) : List UInt8 := if classV id p = 4 ∧ fK id = 1 then [78, 97, 82] else if decN id p = true then 45 :: wrdT (classV id p) else wrdT (classV id p)
set_option maxRecDepth 100000 in
set_option maxHeartbeats 4000000 in
theorem told_wrd (k : Nat) {id p : Int} (h1 : 1 ≤ id) (h2 : id < 15) (hp0 : 0 ≤ p) (hp1 : p < 2 ^ (fW id).toNat) (hc : classV id p = 1 ∨ classV id p = 3 ∨ classV id p = 4) (w : World) (hW : PrW w) :
    Calls Tryz.prog 49 #[.int .i64 id, .int .u64 p, .func (.func k) #[] #[]] w fun e w' => e = .returned (.tuple #[.string (strL (nfT id p)), .int .i64 0]) ∧ Below w.heap.size w w' := by
  have hdc := Lib.hid fun w (hW : PrW w) => vdec_yes id p h1 h2 hp0 hp1 w hW.va
  have hfo := Lib.hid fun w (hW : PrW w) => fo_of id w hW.va.frm h1 h2
  have hM : decM id p = 0 := by unfold decM; rw [if_neg (by omega)]
  have hE : decE id p = 0 := by unfold decE; rw [if_neg (by omega)]
  rw [hM, hE] at hdc
  unfold nfT
  have hN : classV id p = 4 → decN id p = false := fun h => by unfold decN; rw [if_pos h]
  clear hM hE hp0 hp1
  generalize decN id p = ng at hdc hN ⊢
  generalize classV id p = cc at hdc hc hN ⊢
  clear h1 h2
  generalize fK id = fk at hfo ⊢
  generalize fW id = fw at hfo
  generalize fM id = fm at hfo
  generalize fB id = fb at hfo
  generalize fT id = ft at hfo
  generalize fI id = fi at hfo
  generalize fN id = fn at hfo
  have hcase : ((cc == 4) = false ∧ ng = true) ∨ ((cc == 4) = false ∧ ng = false) ∨ ((cc == 4) = true ∧ ng = false ∧ (fk == 1) = true) ∨ ((cc == 4) = true ∧ ng = false ∧ (fk == 1) = false) := by
    rcases hc with h | h | h
    · cases ng <;> simp [h]
    · cases ng <;> simp [h]
    · have := hN h
      by_cases hk : fk = 1 <;> simp [h, this, hk]
  have hl0 := Lib.hid fun w (hW : WrdW w) => WrdW.out hW hc
  have hc2 : (cc == 2) = false := by
    rcases hc with rfl | rfl | rfl <;> rfl
  clear hc hN
  rcases hcase with ⟨hc4, rfl⟩ | ⟨hc4, rfl⟩ | ⟨hc4, rfl, hk⟩ | ⟨hc4, rfl, hk⟩
  · rw [show (if cc = 4 ∧ fk = 1 then [78, 97, 82] else if true = true then 45 :: wrdT cc else wrdT cc : List UInt8) = 45 :: wrdT cc by simp_all]
    obtain ⟨t, ht⟩ : ∃ t, strL (wrdT cc) = t := ⟨_, rfl⟩
    obtain ⟨u, hu⟩ : ∃ u, strL (45 :: wrdT cc) = u := ⟨_, rfl⟩
    rw [hu]
    have hcat : ⟨#[45]⟩ ++ t = strL (45 :: wrdT cc) := by rw [← ht]; exact neg_cat _
    have hut : ⟨#[45]⟩ ++ t = u := by first | exact hu | (rw [← hu]; rfl) | (rw [← hu, ← ht]; done) | (rw [hcat, ← hu]; done)
    have hts : ¬ 9223372036854775807 < 1 + t.size := by
      rw [← ht, strL_size]
      have := wrdT_len cc
      omega
    clear hcat
    replace hut := Lib.hid hut
    replace hu := Lib.hid hu
    go_enter Tryz.func49, Tryz.ntmps49
    go_wp2_with fail
    refine (hdc.out _ hW).mono ?_
    rintro e w1 ⟨rfl, hb⟩
    go_wp2_with fail
    have hB1 : Below w.heap.size w (w1.alloc (.cells #[.int .i64 cc, .bool true, .int .u64 0, .int .i64 0] 31)) := hb.alloc hb.size _
    refine (hfo.out _ (hW.below hB1)).mono ?_
    rintro e w2 ⟨rfl, hb2⟩
    have hB2 := hB1.trans (hb2.mono hB1.size)
    obtain ⟨hn1, mv, hn2, hn3⟩ := hl0.out _ (hW.wrd.below hB2)
    have hp := pBlk_st _ _ _ _ _ (pBlk_made w1 #[.int .i64 cc, .bool true, .int .u64 0, .int .i64 0] 31) hb2
    have hz : w1.heap.size < w2.heap.size := by have := hb2.size; simp at this; omega
    have hl := hn3 (w2.alloc (.cells #[.int .i64 fk, .int .i64 fw, .int .i64 fm, .int .i64 fb, .int .u64 ft, .int .u64 fi, .int .u64 fn] 25)) ((Below.refl _ _).alloc (Nat.le_refl _) _)
    rw [ht] at hl
    replace ht := Lib.hid ht
    obtain ⟨q0, q1, -, -⟩ := cells4 hp
    clear hn3 hp hb hb2
    go_wp2_with fail
    exact bodyPost_ret (v := .tuple #[.string (⟨#[45]⟩ ++ t), .int .i64 0]) (by simp [results, Tryz.results49, go_sem]) rfl ⟨by rw [hut.out], hB2.alloc hB2.size _⟩
  · rw [show (if cc = 4 ∧ fk = 1 then [78, 97, 82] else if false = true then 45 :: wrdT cc else wrdT cc : List UInt8) = wrdT cc by simp_all]
    obtain ⟨t, ht⟩ : ∃ t, strL (wrdT cc) = t := ⟨_, rfl⟩
    obtain ⟨u, hu⟩ : ∃ u, strL (wrdT cc) = u := ⟨_, rfl⟩
    rw [hu]
    have hcat : ⟨#[45]⟩ ++ t = strL (45 :: wrdT cc) := by rw [← ht]; exact neg_cat _
    have hut : t = u := by first | exact hu | (rw [← hu]; rfl) | (rw [← hu, ← ht]; done) | (rw [hcat, ← hu]; done)
    have hts : ¬ 9223372036854775807 < 1 + t.size := by
      rw [← ht, strL_size]
      have := wrdT_len cc
      omega
    clear hcat
    replace hut := Lib.hid hut
    replace hu := Lib.hid hu
    go_enter Tryz.func49, Tryz.ntmps49
    go_wp2_with fail
    refine (hdc.out _ hW).mono ?_
    rintro e w1 ⟨rfl, hb⟩
    go_wp2_with fail
    have hB1 : Below w.heap.size w (w1.alloc (.cells #[.int .i64 cc, .bool false, .int .u64 0, .int .i64 0] 31)) := hb.alloc hb.size _
    refine (hfo.out _ (hW.below hB1)).mono ?_
    rintro e w2 ⟨rfl, hb2⟩
    have hB2 := hB1.trans (hb2.mono hB1.size)
    obtain ⟨hn1, mv, hn2, hn3⟩ := hl0.out _ (hW.wrd.below hB2)
    have hp := pBlk_st _ _ _ _ _ (pBlk_made w1 #[.int .i64 cc, .bool false, .int .u64 0, .int .i64 0] 31) hb2
    have hz : w1.heap.size < w2.heap.size := by have := hb2.size; simp at this; omega
    have hl := hn3 (w2.alloc (.cells #[.int .i64 fk, .int .i64 fw, .int .i64 fm, .int .i64 fb, .int .u64 ft, .int .u64 fi, .int .u64 fn] 25)) ((Below.refl _ _).alloc (Nat.le_refl _) _)
    rw [ht] at hl
    replace ht := Lib.hid ht
    obtain ⟨q0, q1, -, -⟩ := cells4 hp
    clear hn3 hp hb hb2
    go_wp2_with fail
    exact bodyPost_ret (v := .tuple #[.string (t), .int .i64 0]) (by simp [results, Tryz.results49, go_sem]) rfl ⟨by rw [hut.out], hB2.alloc hB2.size _⟩
  · rw [show (if cc = 4 ∧ fk = 1 then [78, 97, 82] else if false = true then 45 :: wrdT cc else wrdT cc : List UInt8) = [78, 97, 82] by simp_all]
    obtain ⟨t, ht⟩ : ∃ t, strL (wrdT cc) = t := ⟨_, rfl⟩
    obtain ⟨u, hu⟩ : ∃ u, strL ([78, 97, 82]) = u := ⟨_, rfl⟩
    rw [hu]
    have hcat : ⟨#[45]⟩ ++ t = strL (45 :: wrdT cc) := by rw [← ht]; exact neg_cat _
    have hut : ⟨#[78, 97, 82]⟩ = u := by first | exact hu | (rw [← hu]; rfl) | (rw [← hu, ← ht]; done) | (rw [hcat, ← hu]; done)
    have hts : ¬ 9223372036854775807 < 1 + t.size := by
      rw [← ht, strL_size]
      have := wrdT_len cc
      omega
    clear hcat
    replace hut := Lib.hid hut
    replace hu := Lib.hid hu
    go_enter Tryz.func49, Tryz.ntmps49
    go_wp2_with fail
    refine (hdc.out _ hW).mono ?_
    rintro e w1 ⟨rfl, hb⟩
    go_wp2_with fail
    have hB1 : Below w.heap.size w (w1.alloc (.cells #[.int .i64 cc, .bool false, .int .u64 0, .int .i64 0] 31)) := hb.alloc hb.size _
    refine (hfo.out _ (hW.below hB1)).mono ?_
    rintro e w2 ⟨rfl, hb2⟩
    have hB2 := hB1.trans (hb2.mono hB1.size)
    obtain ⟨hn1, mv, hn2, hn3⟩ := hl0.out _ (hW.wrd.below hB2)
    have hp := pBlk_st _ _ _ _ _ (pBlk_made w1 #[.int .i64 cc, .bool false, .int .u64 0, .int .i64 0] 31) hb2
    have hz : w1.heap.size < w2.heap.size := by have := hb2.size; simp at this; omega
    have hl := hn3 (w2.alloc (.cells #[.int .i64 fk, .int .i64 fw, .int .i64 fm, .int .i64 fb, .int .u64 ft, .int .u64 fi, .int .u64 fn] 25)) ((Below.refl _ _).alloc (Nat.le_refl _) _)
    rw [ht] at hl
    replace ht := Lib.hid ht
    obtain ⟨q0, q1, -, -⟩ := cells4 hp
    clear hn3 hp hb hb2
    go_wp2_with fail
    exact bodyPost_ret (v := .tuple #[.string (⟨#[78, 97, 82]⟩), .int .i64 0]) (by simp [results, Tryz.results49, go_sem]) rfl ⟨by rw [hut.out], hB2.alloc hB2.size _⟩
  · rw [show (if cc = 4 ∧ fk = 1 then [78, 97, 82] else if false = true then 45 :: wrdT cc else wrdT cc : List UInt8) = wrdT cc by simp_all]
    obtain ⟨t, ht⟩ : ∃ t, strL (wrdT cc) = t := ⟨_, rfl⟩
    obtain ⟨u, hu⟩ : ∃ u, strL (wrdT cc) = u := ⟨_, rfl⟩
    rw [hu]
    have hcat : ⟨#[45]⟩ ++ t = strL (45 :: wrdT cc) := by rw [← ht]; exact neg_cat _
    have hut : t = u := by first | exact hu | (rw [← hu]; rfl) | (rw [← hu, ← ht]; done) | (rw [hcat, ← hu]; done)
    have hts : ¬ 9223372036854775807 < 1 + t.size := by
      rw [← ht, strL_size]
      have := wrdT_len cc
      omega
    clear hcat
    replace hut := Lib.hid hut
    replace hu := Lib.hid hu
    go_enter Tryz.func49, Tryz.ntmps49
    go_wp2_with fail
    refine (hdc.out _ hW).mono ?_
    rintro e w1 ⟨rfl, hb⟩
    go_wp2_with fail
    have hB1 : Below w.heap.size w (w1.alloc (.cells #[.int .i64 cc, .bool false, .int .u64 0, .int .i64 0] 31)) := hb.alloc hb.size _
    refine (hfo.out _ (hW.below hB1)).mono ?_
    rintro e w2 ⟨rfl, hb2⟩
    have hB2 := hB1.trans (hb2.mono hB1.size)
    obtain ⟨hn1, mv, hn2, hn3⟩ := hl0.out _ (hW.wrd.below hB2)
    have hp := pBlk_st _ _ _ _ _ (pBlk_made w1 #[.int .i64 cc, .bool false, .int .u64 0, .int .i64 0] 31) hb2
    have hz : w1.heap.size < w2.heap.size := by have := hb2.size; simp at this; omega
    have hl := hn3 (w2.alloc (.cells #[.int .i64 fk, .int .i64 fw, .int .i64 fm, .int .i64 fb, .int .u64 ft, .int .u64 fi, .int .u64 fn] 25)) ((Below.refl _ _).alloc (Nat.le_refl _) _)
    rw [ht] at hl
    replace ht := Lib.hid ht
    obtain ⟨q0, q1, -, -⟩ := cells4 hp
    clear hn3 hp hb hb2
    go_wp2_with fail
    exact bodyPost_ret (v := .tuple #[.string (t), .int .i64 0]) (by simp [results, Tryz.results49, go_sem]) rfl ⟨by rw [hut.out], hB2.alloc hB2.size _⟩
end Go.Proofs.YtehpneojiinmdaaGreatDoor
namespace Go.Proofs.YtehpneojiinmdaaGreatDoor
open Go.RowKit Go.Cal
theorem Fin.lims {id p : Int} {ng : Bool} {K mv : Nat} {ev : Int} (h : Fin id p ng K mv ev) : mostE id ng = 0 ∧ (K : Int) ≤ mostV id ng ∧ (fK id ≠ 4 → 0 < K) ∧ (K : Int) ≤ fitM id := by
  obtain ⟨x1, x2, x3, x4⟩ := class_two h.h1 h.h2 h.p0 h.p1 h.cl
  rw [h.key] at x1 x2 x3
  rw [h.ng] at x2 x4
  refine ⟨?_, x2, fun h4 => by have := x3 h4; omega, x1⟩
  have a1 := h.h1
  have a2 := h.h2
  unfold mostE
  rw [if_neg (by omega), if_neg (fun h => x4 h.1 h.2)]
/-- Where the search stands still, and what Short makes of it. -/
theorem short_some {id p : Int} {ng : Bool} {K mv : Nat} {ev : Int} (h : Fin id p ng K mv ev) :
    ∃ (d : Nat) (k : Int), itvHas (limV id ng K) d k = true ∧ (d = flQ mv ev k ∨ (d = flQ mv ev k + 1 ∧ 0 < flR mv ev k)) ∧ min ev 0 ≤ k ∧ k ≤ 700 ∧ d ≤ hasM mv ev + 1 ∧
      ∀ F, hasM mv ev + 1 < 10 ^ F → ∃ z : Nat, shortV (limV id ng K) mv ev F = (d / 10 ^ z, k + z) ∧ d / 10 ^ z * 10 ^ z = d ∧ d / 10 ^ z % 10 ≠ 0 ∧ z < F := by
  obtain ⟨hE, x2, hK0, -⟩ := h.lims
  obtain ⟨b1, b2, b3, b4⟩ := h.bnd
  have hns := nig_some hE x2 hK0 h.mag
  have hlb := lgV_bnd b1 (by simpa using b2) ⟨b3, b4⟩
  have hlb2 := lgV_ge b1 (by simpa using b2) ⟨b3, b4⟩
  obtain ⟨d, k, e1, e2, e3, e4⟩ := seekV_is 3000 (lgV mv ev) (min ev 0) (by omega) (by decide) hns
  obtain ⟨n1, n2⟩ := nearV_some e2
  have hk : min ev 0 ≤ k := by omega
  have hq := flQ_le (m := mv) (e := ev) hk
  have hd : d ≤ hasM mv ev + 1 := by
    rcases n2 with rfl | ⟨rfl, _⟩
    · omega
    · omega
  refine ⟨d, k, n1, n2, hk, by omega, hd, fun F hF => ?_⟩
  obtain ⟨z, z1, z2, z3, z4⟩ := stripV_is F d k (itv_pos n1) (by omega)
  refine ⟨z, ?_, z2, z3, z4⟩
  unfold shortV
  rw [e1]
  exact z1
theorem right_of {d z : Nat} {k : Int} (h2 : d / 10 ^ z % 10 ≠ 0) (h3 : d < 10 ^ 2000) (hz : z < 2000) (hk : -2000 ≤ k ∧ k ≤ 700) : DRight (d / 10 ^ z) (k + z) := by
  refine .inr ⟨?_, h2, ?_, by omega, by omega⟩
  · rcases Nat.eq_zero_or_pos (d / 10 ^ z) with h | h
    · rw [h] at h2; omega
    · exact h
  · exact (padd_dec 2000 _ (by decide) (Nat.lt_of_le_of_lt (Nat.div_le_self _ _) h3)).2
theorem short_right {id p : Int} {ng : Bool} {K mv : Nat} {ev : Int} (h : Fin id p ng K mv ev) : DRight (shortV (limV id ng K) mv ev 2000).1 (shortV (limV id ng K) mv ev 2000).2 := by
  obtain ⟨b1, b2, b3, b4⟩ := h.bnd
  obtain ⟨d, k, n1, n2, n3, n4, n5, n6⟩ := short_some h
  have hM := (hasM_bnd b2 ⟨b3, b4⟩ (show 1991 ≤ 2000 by decide)).1
  obtain ⟨z, z1, z2, z3, z4⟩ := n6 2000 hM
  rw [z1]
  exact right_of z3 (Nat.lt_of_le_of_lt n5 hM) z4 ⟨by omega, n4⟩
end Go.Proofs.YtehpneojiinmdaaGreatDoor
namespace Go.Proofs.YtehpneojiinmdaaGreatDoor
open Go.RowKit Go.Cal
/-- A pattern's magnitude and what its number is, as Short and Full read them. -/
def priK (id p : Int) : Nat := (partK id p).toNat
/-- The shortest digits of a pattern, and all. -/
def shoD (id p : Int) : Nat × Int := shortV (limV id (partN id p) (priK id p)) (decM id p) (decE id p) 2000
/-- The text of a pattern. -/
def priT (id p : Int) : List UInt8 := if fitsV id p ≠ 0 then [] else if classV id p = 2 then lyT (partN id p) (shoD id p).1 (shoD id p).2 else nfT id p
theorem fits_two {id p : Int} (hf : fitsV id p = 0) : 1 ≤ id ∧ id < 15 ∧ p < 2 ^ (fW id).toNat := by
  unfold fitsV at hf
  split at hf
  · cases hf
  · rename_i h
    split at hf
    · exact ⟨by omega, by omega, by omega⟩
    · cases hf
theorem fin_of {id p : Int} (h1 : 1 ≤ id) (h2 : id < 15) (hp0 : 0 ≤ p) (hp1 : p < 2 ^ (fW id).toNat) (hc : classV id p = 2) : Fin id p (partN id p) (priK id p) (decM id p) (decE id p) := by
  have hk : partK id p = ((priK id p : Nat) : Int) := by
    have := partK_nonneg (id := id) hp0
    unfold priK
    omega
  refine ⟨h1, h2, hp0, hp1, hc, rfl, hk, ?_⟩
  unfold decM decE
  rw [if_pos hc, if_pos hc]
  rfl
theorem class_all (id p : Int) : classV id p = 1 ∨ classV id p = 2 ∨ classV id p = 3 ∨ classV id p = 4 := by
  unfold classV
  repeat' split
  all_goals simp
set_option maxRecDepth 100000 in
set_option maxHeartbeats 4000000 in
theorem print_any (id p : Int) (hp0 : 0 ≤ p) (hp1 : p < 18446744073709551616) (w : World) (hW : PrW w) :
    Calls Tryz.prog 38 #[.int .i64 id, .int .u64 p] w fun e w' => e = .returned (.tuple #[.string (strL (priT id p)), .int .i64 (fitsV id p)]) ∧ Below w.heap.size w w' := by
  by_cases hf : fitsV id p ≠ 0
  · have ht := Lib.hid (told_no 78 id p hp0 hp1 hf w hW)
    have hT : priT id p = [] := by unfold priT; rw [if_pos hf]
    rw [hT]
    clear hf hT hW hp0 hp1
    generalize fitsV id p = E at ht ⊢
    go_enter Tryz.func38, Tryz.ntmps38
    go_wp2_with fail
    refine ht.out.mono ?_
    rintro e w1 ⟨rfl, hb⟩
    go_wp2_with fail
    go_ret2
    exact ⟨(by first | rfl | trivial), hb⟩
  · have hf0 : fitsV id p = 0 := by simpa using hf
    obtain ⟨h1, h2, h3⟩ := fits_two hf0
    rw [hf0]
    by_cases hc : classV id p = 2
    · have hfin := fin_of h1 h2 hp0 h3 hc
      have hT : priT id p = lyT (partN id p) (shoD id p).1 (shoD id p).2 := by unfold priT; rw [if_neg hf, if_pos hc]
      rw [hT]
      have ht := Lib.hid (told_fin_short hfin w hW (shoD id p) rfl (short_right hfin))
      clear hf hf0 hT hW hp0 hp1 h1 h2 h3 hc hfin
      generalize lyT (partN id p) (shoD id p).1 (shoD id p).2 = S at ht ⊢
      go_enter Tryz.func38, Tryz.ntmps38
      go_wp2_with fail
      refine ht.out.mono ?_
      rintro e w1 ⟨rfl, hb⟩
      go_wp2_with fail
      go_ret2
      exact ⟨(by first | rfl | trivial), hb⟩
    · have hT : priT id p = nfT id p := by unfold priT; rw [if_neg hf, if_neg hc]
      rw [hT]
      have ht := Lib.hid (told_wrd 78 h1 h2 hp0 h3 (by rcases class_all id p with h | h | h | h <;> simp_all) w hW)
      clear hf hf0 hT hW hp0 hp1 h1 h2 h3 hc
      generalize nfT id p = S at ht ⊢
      go_enter Tryz.func38, Tryz.ntmps38
      go_wp2_with fail
      refine ht.out.mono ?_
      rintro e w1 ⟨rfl, hb⟩
      go_wp2_with fail
      go_ret2
      exact ⟨(by first | rfl | trivial), hb⟩
end Go.Proofs.YtehpneojiinmdaaGreatDoor
namespace Go.Proofs.YtehpneojiinmdaaGreatDoor
open Go.ChangeShapes Go.WideShapes Go.ChangeAt Go.RowKit Go.Cal Go.Maps
theorem zero_strP (w : World) : (zeroValue 9).run Tryz.prog w = .ok (.string ⟨#[]⟩) w := by kernel_rfl
theorem cells_strP {v : Value} (h : v.formed Tryz.prog 9 = true) : v.cells.toList = [v] := by
  cases v with
  | agg cs => simp [Value.formed, Tryz.underlying9] at h
  | _ => rfl
set_option maxRecDepth 100000 in
theorem wrd_one {W wr : World} {b n : Nat} {es : Array MapEntry} {clock : Nat} (hb : wr.heap[b]? = some (.map es clock)) (F : Go.WideElems.Fit Tryz.prog 3 (Go.WideElems.elemAt (fun _ => ()) Tryz.prog W 0 (fun _ => true) false n 9) es clock) (k : Int) (l : List UInt8) (hwf : (Lit.int .i64 k).wf = true)
    (hD : ∀ zd : DataW Unit, (DataW.map ((es.toList.map (Go.WideElems.rg Tryz.prog 3 (Go.WideElems.elemAt (fun _ => ()) Tryz.prog W 0 (fun _ => true) false n 9))).foldr DataW.insert [])).atKey (.int .i64 k) zd = .lit (.string l)) :
    (Instr.lookup 153 (.map (some b)) (.int .i64 k) false).run Tryz.prog wr = .ok (.string (strL l)) wr := by
  have hkey : keyOf Tryz.prog 3 (.int .i64 k) = some (.int .i64 k) := keyOf_int_mk Tryz.underlying3 hwf
  rcases fit_look false law_int Tryz.underlying153 (zero_strP wr) hb F hkey with ⟨_, _, hz⟩ | ⟨e0, y, _, _, hrun, hR, hy, _⟩
  · have := (hz .nil).symm.trans (hD .nil)
    cases this
  · have h1 : y.1 = .lit (.string l) := (hy .nil).symm.trans (hD .nil)
    unfold Go.WideElems.elemAt at hR
    split at hR
    · rename_i hf
      rw [cells_strP hf] at hR
      obtain ⟨s, hs, hx, _⟩ := DataW.trod_string Tryz.underlying9 hR
      rw [hx] at h1
      have hl : s.data.toList = l := by
        have h2 : (DataW.lit (.string s.data.toList) : DataW Unit) = DataW.lit (.string l) := h1
        injection h2 with h2
        injection h2
      have hv := (List.cons.inj hs).1
      rw [hrun]
      subst hl
      simp [hv, strL]
    · cases hR
theorem wrdW_of_laid {W : World} {laid : List (String × DataW Unit)} (h : laidMet Tryz.prog laid W) (hm : ("caliper/print.words", Rows.laid_caliper_print_words) ∈ laid) : WrdW W := by
  obtain ⟨ps, hl, _⟩ := h
  obtain ⟨g, t, cs, fuel, p, hg, ht, hv, hd⟩ := laidVars_mem hl hm
  obtain rfl := Option.some.inj ((show Tryz.prog.globalNamed "caliper/print.words" = some 3 by kernel_rfl).symm.trans hg)
  obtain rfl := Option.some.inj ((show (Tryz.prog.globals[3]?).map (·.type) = some 153 by kernel_rfl).symm.trans ht)
  have hd' : DataW.trod (fun _ => ()) Tryz.prog W 0 (fun _ => true) false fuel 153 cs.toList = some (.map [(.int .i64 1, .lit (.string [48])), (.int .i64 3, .lit (.string [105, 110, 102])), (.int .i64 4, .lit (.string [110, 97, 110]))], p) := hd
  rcases Go.WideElems.open_map Tryz.underlying153 hd' with ⟨_, hx⟩ | ⟨b, es, clock, n, _, hcs, hb, _, F, hx⟩
  · cases hx
  · simp only [Prod.mk.injEq] at hx
    obtain ⟨hD, _⟩ := hx
    have hc : W.cell? ⟨3, 0, none⟩ = some (.map (some b)) := by
      have := World.var?_cell hg hv 0
      rw [Array.eq_one_of_toList hcs] at this
      simpa using this
    have hbl : b < W.heap.size := (Array.getElem?_eq_some_iff.1 hb).1
    refine ⟨World.block_lt_of_cell? W ⟨3, 0, none⟩ hc, _, hc, fun wr hr => ?_⟩
    have hbr : wr.heap[b]? = some (.map es clock) := by rw [hr.block b hbl]; exact hb
    intro c hk
    rcases hk with rfl | rfl | rfl
    · exact wrd_one hbr F 1 [48] (by decide) (fun zd => by rw [← hD]; rfl)
    · exact wrd_one hbr F 3 [105, 110, 102] (by decide) (fun zd => by rw [← hD]; rfl)
    · exact wrd_one hbr F 4 [110, 97, 110] (by decide) (fun zd => by rw [← hD]; rfl)
end Go.Proofs.YtehpneojiinmdaaGreatDoor
