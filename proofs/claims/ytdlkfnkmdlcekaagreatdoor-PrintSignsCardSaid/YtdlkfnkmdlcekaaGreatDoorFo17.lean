/- 'few' is a copy of so many words. Condition: a slice that is nil has no room. -/
/- What the rows of the nat layer share: the tables out of the row's condition, a slice of words out of an argument. Conditions: none. -/
/- The nat layer, by values, where a number's words have no noughts at the end; live facts of any kind. Conditions: a number's words are counted. -/
/- Scan, first part: words. Conditions: a text's reach. -/
import Derived.Test.YtdlkfnkmdlcekaaGreatDoorFo16
import Derived.Test.YtdlkfnkmdlcekaaGreatDoorCards
import Derived.Test.YtdlkfnkmdlcekaaGreatDoorTie
import Derived.ProofKit
import Derived.LaidMore
import Derived.OpenShut
import Derived.Lay
import Derived.SevenTiedAt
import Derived.Stop.Joined
import Derived.Lib.LaidTab
import Derived.Test.YtdlkfnkmdlcekaaGreatDoorFo03
import Derived.Deep.QuietTactic
import Derived.BigQuiet
namespace Go.Proofs.YtdlkfnkmdlcekaaGreatDoor
open Go.RowKit Go.Cal
/-- A slice of words that came in. -/
def ArgN (w : World) (v : Value) : Prop := ∃ A c xs, v = .slice A (xs : List Nat).length c ∧ RdU w w.heap.size A xs ∧ (A = none → c = 0) ∧ xs.length ≤ c ∧ c ≤ maxLen ∧ Dig 18446744073709551616 xs
theorem cmp_is {B w : World} {l : List (Value × Nat × Nat)} {v1 v2 : Value} {k1 k2 X Y : Nat} (r : Int) (h : Live B w l) (m1 : (v1, k1, X) ∈ l) (m2 : (v2, k2, Y) ∈ l) (b1 : k1 ≤ 1048576) (b2 : k2 ≤ 1048576) (hr : cmpV (X : Int) (Y : Int) = r) :
    Calls Tryz.prog 143 #[v1, v2] w fun e w' => e = .returned (.int .i64 r) ∧ Live B w' l := by
  subst hr
  exact cmp_l h m1 m2 b1 b2
theorem cmp_same {B w : World} {l : List (Value × Nat × Nat)} {v1 v2 : Value} {k1 k2 X Y : Nat} (h : Live B w l) (m1 : (v1, k1, X) ∈ l) (m2 : (v2, k2, Y) ∈ l) (b1 : k1 ≤ 1048576) (b2 : k2 ≤ 1048576) (hr : X = Y) :
    Calls Tryz.prog 143 #[v1, v2] w fun e w' => e = .returned (.int .i64 0) ∧ Live B w' l :=
  cmp_is 0 h m1 m2 b1 b2 (cmpV_eq (by rw [hr]))
end Go.Proofs.YtdlkfnkmdlcekaaGreatDoor
namespace Go.Proofs.YtdlkfnkmdlcekaaGreatDoor
open Go.ChangeShapes Go.WideShapes Go.ChangeAt Go.RowKit Go.Cal
theorem laid_out : laidOutB Tryz.prog = true := by kernel_rfl
theorem own : ownKnob Tryz.prog.godebug = none := by kernel_rfl
theorem laidVars_mem {P : Program} {w : World} : ∀ {laid : List (String × DataW Unit)} {ps : List MemPlace}, DataW.LaidVars P w laid ps → ∀ {n : String} {d : DataW Unit}, (n, d) ∈ laid →
    ∃ g t cs fuel p, P.globalNamed n = some g ∧ (P.globals[g]?).map (·.type) = some t ∧ w.var? P n = some cs ∧ DataW.trod (fun _ => ()) P w 0 (fun _ => true) false fuel t cs.toList = some (d, p)
  | [], _, _, _, _, h => by simp at h
  | (n', d') :: r, ps, h, n, d, hm => by
    obtain ⟨g, t, cs, fuel, p, q, h1, h2, h3, h4, h5, _⟩ := h
    rcases List.mem_cons.1 hm with e | hm
    · injection e with e1 e2
      subst e1; subst e2
      exact ⟨g, t, cs, fuel, p, h1, h2, h3, h4⟩
    · exact laidVars_mem h5 hm
theorem tab10_of_laid {W : World} {laid : List (String × DataW Unit)} (h : laidMet Tryz.prog laid W) (hm : ("internal/strconv.uint64pow10", Rows.laid_internal_strconv_uint64pow10) ∈ laid) : Tab10 W := by
  obtain ⟨ps, hl, _⟩ := h
  obtain ⟨g, t, cs, fuel, p, h1, h2, h3, h4⟩ := laidVars_mem hl hm
  obtain rfl := Option.some.inj ((show Tryz.prog.globalNamed "internal/strconv.uint64pow10" = some 5 by kernel_rfl).symm.trans h1)
  obtain rfl := Option.some.inj ((show (Tryz.prog.globals[5]?).map (·.type) = some 203 by kernel_rfl).symm.trans h2)
  have h5 := Lib.cells_of_tab (k := .u64) (zs := Lib.pow10Tab) Tryz.underlying203 Tryz.underlying22 (by kernel_rfl) (by kernel_rfl) h4
  unfold Tab10 Lib.TabIs
  rw [h3, ← h5]
set_option maxRecDepth 100000 in
/-- A slice of words that came in. -/
theorem argN_of {H : Type} {enc : TypeId × Value → H} {W : World} {v : Value} {d : DataW H} {p : List MemPlace} {sp : Nat → Bool} {hd : Bool} {base : Nat}
    (hv : Value.okWide Tryz.prog W .any base 53 v) (h : DataW.Trod enc Tryz.prog W 0 sp hd 53 v d p) (hlt : ∀ x ∈ p, x.block < W.heap.size) : ArgN W v := by
  obtain ⟨a0, len, cap, rfl⟩ := okWide_slice Tryz.underlying53 hv
  obtain ⟨fuel, h⟩ := h
  rcases open_ints Tryz.underlying53 Tryz.underlying22 (by kernel_rfl) h with ⟨h1, _⟩ | ⟨a, len', cap', zs, h1, h2, h3, h4, h5, h6, h7, h8⟩
  · simp [Value.cells] at h1
    obtain ⟨rfl, rfl, rfl⟩ := h1
    exact ⟨none, 0, [], rfl, .nil, fun _ => rfl, Nat.le_refl _, by unfold maxLen; omega, fun x hx => by simp at hx⟩
  · simp [Value.cells] at h1
    obtain ⟨rfl, rfl, rfl⟩ := h1
    have hlz : len ≤ zs.length := by
      rw [h5]; split <;> omega
    have hb : ∀ n ∈ zs, 0 ≤ n ∧ n ≤ 18446744073709551615 := fun n hn => bounds_u64 (h8 n hn)
    have hl : ((zs.take len).map Int.toNat).length = len := by rw [List.length_map, List.length_take]; omega
    refine ⟨some a, cap, (zs.take len).map Int.toNat, by rw [hl], ?_, (fun e => by cases e), by rw [hl]; exact h3, h4, fun x hx => ?_⟩
    · by_cases h0 : len = 0
      · subst h0; exact .nil
      · have h7' := h7
        obtain ⟨b, off, rfl, hc⟩ := ints_at h7 (by omega)
        have hin : MemPlace.cell b off ∈ p := by
          rw [(Prod.mk.inj h6).2]
          exact List.mem_map.2 ⟨0, List.mem_range.2 (by omega), rfl⟩
        refine ⟨.inr ⟨b, off, rfl, hlt _ hin⟩, fun b' off' e i hi => ?_⟩
        injection e with e
        injection e with e1 e2
        subst e1; subst e2
        rw [hl] at hi
        rw [hc i (by omega)]
        have hi2 : i < zs.length := by omega
        have hz := (hb (zs.getD i 0) (by rw [List.getD_eq_getElem?_getD, List.getElem?_eq_getElem hi2]; exact List.getElem_mem _)).1
        have e3 : ((zs.take len).map Int.toNat).getD i 0 = (zs.getD i 0).toNat := by
          simp [List.getD_eq_getElem?_getD, hi, hi2]
        rw [e3, Int.toNat_of_nonneg hz]
    · obtain ⟨n, hn, rfl⟩ := List.mem_map.1 hx
      have := hb n (List.mem_of_mem_take hn)
      omega
end Go.Proofs.YtdlkfnkmdlcekaaGreatDoor
namespace Go.Proofs.YtdlkfnkmdlcekaaGreatDoor
open Go.RowKit Go.Cal
/-- A fact that stays where old memory stays. -/
def Stable (P : World → Prop) : Prop := ∀ w w', P w → Below w.heap.size w w' → P w'
/-- Below B nothing has turned; the facts of the list hold. -/
structure LiveP (B w : World) (l : List (World → Prop)) : Prop where
  below : Below B.heap.size B w
  all : ∀ P ∈ l, Stable P ∧ P w
section
variable {B w w' : World} {l l' : List (World → Prop)} {P : World → Prop}
theorem LiveP.start (w : World) : LiveP w w [] := ⟨.refl _ _, fun p hp => by simp at hp⟩
theorem LiveP.size (h : LiveP B w l) : B.heap.size ≤ w.heap.size := h.below.size
theorem LiveP.get (h : LiveP B w l) (hm : P ∈ l) : P w := (h.all _ hm).2
theorem LiveP.go (h : LiveP B w l) (hb : Below w.heap.size w w') : LiveP B w' l := ⟨h.below.trans (hb.mono h.size), fun p hp => ⟨(h.all p hp).1, (h.all p hp).1 _ _ (h.all p hp).2 hb⟩⟩
theorem LiveP.put (h : LiveP B w l) (hs : Stable P) (hv : P w) : LiveP B w (P :: l) := ⟨h.below, fun p hp => by
  rcases List.mem_cons.1 hp with rfl | hp
  · exact ⟨hs, hv⟩
  · exact h.all p hp⟩
theorem LiveP.keep (h : LiveP B w l) (hs : ∀ p ∈ l', p ∈ l) : LiveP B w l' := ⟨h.below, fun p hp => h.all p (hs p hp)⟩
end
/-- The value reads as the number N: its words have no noughts at the end. -/
def IsT (w : World) (v : Value) (k N : Nat) : Prop :=
  ∃ A c zs, v = .slice A (zs : List Nat).length c ∧ RdU w w.heap.size A zs ∧ zs.length ≤ c ∧ c ≤ maxLen ∧ zs.length ≤ k ∧ Nrm zs N
theorem IsT.below {w w' : World} {v : Value} {k N : Nat} (h : IsT w v k N) (hb : Below w.heap.size w w') : IsT w' v k N := by
  obtain ⟨A, c, zs, h1, h2, h3⟩ := h
  exact ⟨A, c, zs, h1, (h2.below hb).more hb.size, h3⟩
theorem IsT.isN {w : World} {v : Value} {k N : Nat} (h : IsT w v k N) : IsN w v k N := by
  obtain ⟨A, c, zs, h1, h2, h3, h4, h5, h6⟩ := h
  exact ⟨A, c, zs, h1, h2, h3, h5, h6.dig, h6.val⟩
theorem IsT.ofW {w : World} {base k N : Nat} {A : Option Addr} {c : Nat} {zs : List Nat} (g : GotW w base A c zs) (n : Nrm zs N) (hk : N < 18446744073709551616 ^ k) : IsT w (.slice A zs.length c) k N :=
  ⟨A, c, zs, rfl, g.rd, g.cap, g.small, n.length_le hk, n⟩
def pN (v : Value) (k N : Nat) (w : World) : Prop := IsN w v k N
def pT (v : Value) (k N : Nat) (w : World) : Prop := IsT w v k N
theorem pN_st (v : Value) (k N : Nat) : Stable (pN v k N) := fun _ _ h hb => IsN.below h hb
theorem pT_st (v : Value) (k N : Nat) : Stable (pT v k N) := fun _ _ h hb => IsT.below h hb
/-- A call tells one number. -/
def TellsT (w : World) (k N : Nat) (e : Ending) (w' : World) : Prop := ∃ v, e = .returned v ∧ pT v k N w' ∧ Below w.heap.size w w'
section
variable {w : World} {v1 v2 : Value} {k1 k2 X Y : Nat}
theorem tellsT_of_retN {N k : Nat} {e : Ending} {w' : World} (hk : N < 18446744073709551616 ^ k) (hr : RetN w N e w') : TellsT w k N e w' := by
  obtain ⟨A, c, zs, rfl, g, n, hb⟩ := hr
  exact ⟨_, rfl, .ofW (gotU_toW g) n hk, hb⟩
theorem tellsT_of_retW {N k : Nat} {e : Ending} {w' : World} (hk : N < 18446744073709551616 ^ k) (hr : RetW w N e w') : TellsT w k N e w' := by
  obtain ⟨A, c, zs, rfl, g, n, hb⟩ := hr
  exact ⟨_, rfl, .ofW g n hk, hb⟩
theorem add_t (h1 : IsN w v1 k1 X) (h2 : IsN w v2 k2 Y) (b1 : k1 ≤ 1048576) (b2 : k2 ≤ 1048576) : Calls Tryz.prog 112 #[v1, v2] w (TellsT w (max k1 k2 + 1) (X + Y)) := by
  have i1 := h1.lt
  have i2 := h2.lt
  obtain ⟨A1, c1, z1, rfl, r1, hc1, hl1, d1, rfl⟩ := h1
  obtain ⟨A2, c2, z2, rfl, r2, hc2, hl2, d2, rfl⟩ := h2
  refine (add_any c1 c2 w r1 r2 (by omega) (by omega) d1 d2).mono fun e w' hr => tellsT_of_retN ?_ hr
  have e1 : 18446744073709551616 ^ k1 ≤ 18446744073709551616 ^ max k1 k2 := Nat.pow_le_pow_right (by omega) (Nat.le_max_left _ _)
  have e2 : 18446744073709551616 ^ k2 ≤ 18446744073709551616 ^ max k1 k2 := Nat.pow_le_pow_right (by omega) (Nat.le_max_right _ _)
  rw [Nat.pow_succ]
  omega
theorem mul_t (h1 : IsN w v1 k1 X) (h2 : IsN w v2 k2 Y) (b1 : k1 ≤ 1048576) (b2 : k2 ≤ 1048576) : Calls Tryz.prog 67 #[v1, v2] w (TellsT w (k1 + k2) (X * Y)) := by
  have i1 := h1.lt
  have i2 := h2.lt
  obtain ⟨A1, c1, z1, rfl, r1, hc1, hl1, d1, rfl⟩ := h1
  obtain ⟨A2, c2, z2, rfl, r2, hc2, hl2, d2, rfl⟩ := h2
  refine (mul_any c1 c2 w r1 r2 (by omega) (by omega) d1 d2).mono fun e w' hr => tellsT_of_retN ?_ hr
  rw [Nat.pow_add]
  exact Nat.mul_lt_mul'' i1 i2
theorem cmp_t (h1 : IsN w v1 k1 X) (h2 : IsN w v2 k2 Y) (b1 : k1 ≤ 1048576) (b2 : k2 ≤ 1048576) : Calls Tryz.prog 143 #[v1, v2] w fun e w' => e = .returned (.int .i64 (cmpV (X : Int) (Y : Int))) ∧ Below w.heap.size w w' := by
  obtain ⟨A1, c1, z1, rfl, r1, hc1, hl1, d1, rfl⟩ := h1
  obtain ⟨A2, c2, z2, rfl, r2, hc2, hl2, d2, rfl⟩ := h2
  exact (cmp_any c1 c2 w r1 r2 hc1 hc2 (by omega) (by omega) d1 d2).mono fun e w' ⟨he, hd⟩ => ⟨he, hd.below _⟩
/-- Sub and Parse, where there is a number. -/
def TellsTO (w : World) (k N : Nat) (e : Ending) (w' : World) : Prop := ∃ v, e = .returned (.tuple #[v, .bool true]) ∧ pT v k N w' ∧ Below w.heap.size w w'
def TellsNo (w : World) (e : Ending) (w' : World) : Prop := e = .returned (.tuple #[.slice none 0 0, .bool false]) ∧ Below w.heap.size w w'
def TellsTD (w : World) (k k' Q R : Nat) (e : Ending) (w' : World) : Prop := ∃ v v', e = .returned (.tuple #[v, v', .bool true]) ∧ pT v k Q w' ∧ pT v' k' R w' ∧ Below w.heap.size w w'
theorem div_t (h1 : IsN w v1 k1 X) (h2 : IsN w v2 k2 Y) (b1 : k1 ≤ 1048576) (b2 : k2 ≤ 1048576) (h0 : 0 < Y) : Calls Tryz.prog 117 #[v1, v2] w (TellsTD w k1 k2 (X / Y) (X % Y)) := by
  have i1 := h1.lt
  have i2 := h2.lt
  obtain ⟨A1, c1, z1, rfl, r1, hc1, hl1, d1, rfl⟩ := h1
  obtain ⟨A2, c2, z2, rfl, r2, hc2, hl2, d2, rfl⟩ := h2
  refine (div_any c1 c2 w r1 r2 hc1 hc2 (by omega) (by omega) d1 d2).mono fun e w' hr => ?_
  unfold RetDiv at hr
  rw [if_neg (by omega)] at hr
  obtain ⟨A, c, zs, A', c', rs, rfl, g, n, g', n', hb⟩ := hr
  exact ⟨_, _, rfl, .ofW g n (Nat.lt_of_le_of_lt (Nat.div_le_self _ _) i1), .ofW g' n' (Nat.lt_trans (Nat.mod_lt _ h0) i2), hb⟩
theorem div_n (h1 : IsN w v1 k1 X) (h2 : IsN w v2 k2 0) (b1 : k1 ≤ 1048576) (b2 : k2 ≤ 1048576) :
    Calls Tryz.prog 117 #[v1, v2] w fun e w' => e = .returned (.tuple #[.slice none 0 0, .slice none 0 0, .bool false]) ∧ Below w.heap.size w w' := by
  obtain ⟨A1, c1, z1, rfl, r1, hc1, hl1, d1, rfl⟩ := h1
  obtain ⟨A2, c2, z2, rfl, r2, hc2, hl2, d2, h0⟩ := h2
  refine (div_any c1 c2 w r1 r2 hc1 hc2 (by omega) (by omega) d1 d2).mono fun e w' hr => ?_
  unfold RetDiv at hr
  rw [if_pos h0] at hr
  exact hr
theorem shl_t (n : Int) (k' N : Nat) (h1 : IsN w v1 k1 X) (b1 : k1 ≤ 1048576) (hN : X * 2 ^ (min (max n 0) 131072).toNat = N) (hk : N < 18446744073709551616 ^ k') : Calls Tryz.prog 66 #[v1, .int .i64 n] w (TellsT w k' N) := by
  subst hN
  obtain ⟨A1, c1, z1, rfl, r1, hc1, hl1, d1, rfl⟩ := h1
  exact (shl_any c1 n w r1 hc1 (by omega) d1).mono fun e w' hr => tellsT_of_retN hk hr
theorem shr_t (n : Int) (N : Nat) (h1 : IsN w v1 k1 X) (b1 : k1 ≤ 1048576) (hN : X / 2 ^ (min (max n 0) 131072).toNat = N) : Calls Tryz.prog 145 #[v1, .int .i64 n] w (TellsT w k1 N) := by
  subst hN
  have i1 := h1.lt
  obtain ⟨A1, c1, z1, rfl, r1, hc1, hl1, d1, rfl⟩ := h1
  exact (shr_any c1 n w r1 (by omega) d1).mono fun e w' hr => tellsT_of_retN (Nat.lt_of_le_of_lt (Nat.div_le_self _ _) i1) hr
theorem norm_t (h1 : IsN w v1 k1 X) (b1 : k1 ≤ 1048576) : Calls Tryz.prog 26 #[v1] w (TellsT w k1 X) := by
  have i1 := h1.lt
  obtain ⟨A1, c1, z1, rfl, r1, hc1, hl1, d1, rfl⟩ := h1
  exact (norm_any c1 w r1 hc1 (by omega) d1).mono fun e w' hr => tellsT_of_retW i1 hr
end
theorem of_t (w : World) (n : Nat) (hn : n < 18446744073709551616) : Calls Tryz.prog 60 #[.int .u64 n] w (TellsT w 1 n) :=
  (of_any n hn w).mono fun _ _ hr => tellsT_of_retW (by rw [Nat.pow_one]; exact hn) hr
theorem pow_t (w : World) (base : Nat) (hb : base < 18446744073709551616) (n : Int) (n0 : Nat) (hn : (min (max n 0) 10000).toNat = n0) : Calls Tryz.prog 68 #[.int .u64 base, .int .i64 n] w (TellsT w (n0 + 1) (base ^ n0)) := by
  subst hn
  exact (pow_any base hb n w).mono fun _ _ hr => tellsT_of_retW (Nat.lt_of_le_of_lt (Nat.pow_le_pow_left (Nat.le_of_lt hb) _) (Nat.pow_lt_pow_right (by omega) (Nat.lt_succ_self _))) hr
theorem parse_t (w : World) (s : ByteArray) (hs : POk s.data.toList) : Calls Tryz.prog 76 #[.string s] w (TellsTO w s.data.toList.length (numV s.data.toList)) :=
  (parse_any s w hs).mono fun _ _ ⟨⟨_, _, _, he, g, n⟩, hb⟩ => ⟨_, he, .ofW g n (Nat.lt_of_lt_of_le (numV_lt _ hs.dig) (Nat.pow_le_pow_left (by omega) _)), hb⟩
end Go.Proofs.YtdlkfnkmdlcekaaGreatDoor
namespace Go.Proofs.YtdlkfnkmdlcekaaGreatDoor
open Go.RowKit Go.Cal
def strL (l : List UInt8) : ByteArray := ⟨l.toArray⟩
theorem strL_size (l : List UInt8) : (strL l).size = l.length := by simp [strL, ByteArray.size]
theorem strL_get (l : List UInt8) (i : Nat) (h : i < (strL l).size) : (strL l)[i] = l.getD i 0 := by
  have h' : i < l.length := by rwa [strL_size] at h
  show l.toArray[i]'_ = _
  simp [List.getD_eq_getElem?_getD, h']
  rfl
/-- The program's row of words. -/
def wordsL : List (List UInt8) := [[], [], wINF, wNAN, wNAR]
theorem swords_any (w : World) : Calls Tryz.prog 93 #[] w fun e w' => e = .returned (.slice (some ⟨w.heap.size, 0, none⟩) 5 5) ∧ w' = w.alloc (.cells #[.string (strL []), .string (strL []), .string (strL wINF), .string (strL wNAN), .string (strL wNAR)] 9) := by
  go_enter Tryz.func93, Tryz.ntmps93
  go_wp2
  go_ret
  exact ⟨rfl, rfl⟩
/-- The furthest of the first i words. -/
def maxW (t : List UInt8) : Nat → Nat
  | 0 => 0
  | i + 1 => max (maxW t i) (lcp t (wordsL.getD i []))
theorem maxW_all (t : List UInt8) : maxW t 5 = wordN t := by
  show max (max (max (max (max 0 (lcp t [])) (lcp t [])) (lcp t wINF)) (lcp t wNAN)) (lcp t wNAR) = _
  rw [lcp_nil]
  unfold wordN
  omega
theorem wordK_hit {t : List UInt8} {i : Nat} (h0 : t ≠ []) (h : t = wordsL.getD i []) (hi : i < 5) : wordK t = i ∧ 2 ≤ i := by
  have hc : i = 0 ∨ i = 1 ∨ i = 2 ∨ i = 3 ∨ i = 4 := by omega
  rcases hc with rfl | rfl | rfl | rfl | rfl
  · exact absurd h h0
  · exact absurd h h0
  · subst h; exact ⟨rfl, by omega⟩
  · subst h; exact ⟨rfl, by omega⟩
  · subst h; exact ⟨rfl, by omega⟩
theorem wordK_miss {t : List UInt8} (h : ∀ i, i < 5 → wordsL.getD i [] ≠ [] → t ≠ wordsL.getD i []) : wordK t = 0 := by
  unfold wordK
  have h2 : t ≠ wINF := h 2 (by omega) (by decide)
  have h3 : t ≠ wNAN := h 3 (by omega) (by decide)
  have h4 : t ≠ wNAR := h 4 (by omega) (by decide)
  rw [if_neg h2, if_neg h3, if_neg h4]
/-- What word tells. -/
def WordTells (w : World) (t : List UInt8) (f : Nat) (e : Ending) (w' : World) : Prop :=
  ((wordK t ≠ 0 ∧ e = .returned (.tuple #[.int .i64 (wordK t : Nat), .int .i64 0, .bool true])) ∨ (wordK t = 0 ∧ e = .returned (.tuple #[.int .i64 0, .int .i64 ((f + wordN t : Nat) : Int), .bool false]))) ∧ Below w.heap.size w w'
set_option maxRecDepth 100000 in
set_option maxHeartbeats 1000000 in
theorem sword_any (l : List UInt8) (hl : l.length ≤ maxLen) (f : Nat) (hf : f ≤ l.length) (w : World) : Calls Tryz.prog 62 #[.string (strL l), .int .i64 f] w (WordTells w (l.drop f) f) := by
  obtain ⟨t, ht⟩ : ∃ t, l.drop f = t := ⟨_, rfl⟩
  have htl : t.length = l.length - f := by rw [← ht, List.length_drop]
  have hget : ∀ n (h : f + n < (strL l).size), (strL l)[f + n] = t.getD n 0 := fun n h => by
    rw [strL_get l _ h, ← ht]
    simp [List.getD_eq_getElem?_getD, List.getElem?_drop]
  have hsz := strL_size l
  rw [ht]
  obtain ⟨s, hs⟩ : ∃ s, strL l = s := ⟨_, rfl⟩
  rw [hs] at hget hsz ⊢
  unfold maxLen at hl
  replace hget := Lib.hid hget
  replace ht := Lib.hid ht
  replace hs := Lib.hid hs
  go_enter Tryz.func62, Tryz.ntmps62
  go_wp2_with fail
  refine (swords_any w).mono ?_
  rintro e w0 ⟨rfl, hw0⟩
  have hb0 : Below w.heap.size w w0 := by rw [hw0]; exact (Below.refl _ _).alloc (Nat.le_refl _) _
  have hcw : ∀ i, i < 5 → w0.cell? ⟨w.heap.size, i, none⟩ = some (.string (strL (wordsL.getD i []))) := fun i hi => by
    have hc : i = 0 ∨ i = 1 ∨ i = 2 ∨ i = 3 ∨ i = 4 := by omega
    rw [hw0]
    rcases hc with rfl | rfl | rfl | rfl | rfl <;> simp [wordsL]
  have hg : w.heap.size < w0.heap.size := by rw [hw0]; simp
  clear hw0
  go_wp2
  go_loopg [5, 13] 5 (fun k av iv wr => ∃ i : Nat, iv = .int .i64 i ∧ i + k = 5 ∧ av = .int .i64 ((f + maxW t i : Nat) : Int) ∧ (∀ j, j < i → wordsL.getD j [] ≠ [] → t ≠ wordsL.getD j []) ∧ Below w0.heap.size w0 wr)
  case atStart => exact ⟨0, rfl, rfl, rfl, fun j hj => absurd hj (by omega), .refl _ _⟩
  case round =>
    obtain ⟨i, rfl, hik, rfl, hno, hbw⟩ := hrel
    have hfin := chain hb0 hbw
    by_cases hk0 : gk = 0
    · subst hk0
      obtain rfl : i = 5 := by omega
      have hk := wordK_miss hno
      rw [maxW_all]
      replace hk := Lib.hid hk
      clear hno
      go_wp2
      go_ret3
      exact ⟨.inr ⟨hk.out, rfl⟩, hfin⟩
    · have hi5 : i < 5 := by omega
      have hi5' : (i : Int) < 5 := by omega
      have hci := hcw i hi5
      rw [← hbw.cell (p := ⟨w.heap.size, i, none⟩) hg] at hci
      obtain ⟨wl, hwl⟩ : ∃ x, wordsL.getD i [] = x := ⟨_, rfl⟩
      have hwl3 : wl.length ≤ 3 := by
        rw [← hwl]
        have hc : i = 0 ∨ i = 1 ∨ i = 2 ∨ i = 3 ∨ i = 4 := by omega
        rcases hc with rfl | rfl | rfl | rfl | rfl <;> decide
      rw [hwl] at hci
      obtain ⟨s2, hs2⟩ : ∃ x, strL wl = x := ⟨_, rfl⟩
      have hsz2 := strL_size wl
      have hget2 := strL_get wl
      rw [hs2] at hci hsz2 hget2
      obtain ⟨m, hm⟩ : ∃ m, wl.length = m := ⟨_, rfl⟩
      rw [hm] at hsz2 hwl3
      have hsz2' : (s2.size : Int) = (m : Int) := by rw [hsz2]
      obtain ⟨c, hc⟩ : ∃ c, lcp t wl = c := ⟨_, rfl⟩
      have hcm : c ≤ m := by rw [← hc, ← hm]; exact lcp_le_right t wl
      have hct : c ≤ t.length := by rw [← hc]; exact lcp_le_left t wl
      have hsame := fun n (h : n < c) => lcp_same t wl n (by rw [hc]; exact h)
      have hstop : c < m → c < t.length → t.getD c 0 ≠ wl.getD c 0 := fun h1 h2 => by
        have := lcp_stop t wl (by rw [hc, hm]; exact h1) (by rw [hc]; exact h2)
        rwa [hc] at this
      have hmax : maxW t (i + 1) = max (maxW t i) c := by
        show max (maxW t i) (lcp t (wordsL.getD i [])) = _
        rw [hwl, hc]
      have hempty : s2.toList.isEmpty = decide (m = 0) := by
        rw [← hs2, ← hm, ← hwl]
        have hc : i = 0 ∨ i = 1 ∨ i = 2 ∨ i = 3 ∨ i = 4 := by omega
        rcases hc with rfl | rfl | rfl | rfl | rfl <;> decide +kernel
      have hnext : (t ≠ wl ∨ wl = []) → ∀ j, j < i + 1 → wordsL.getD j [] ≠ [] → t ≠ wordsL.getD j [] := fun h j hj hj0 => by
        rcases Nat.eq_or_lt_of_le (Nat.le_of_lt_succ hj) with rfl | hj
        · rw [hwl] at hj0 ⊢
          rcases h with h | h
          · exact h
          · exact absurd h hj0
        · exact hno j hj hj0
      replace hc := Lib.hid hc
      replace hm := Lib.hid hm
      replace hs2 := Lib.hid hs2
      replace hwl := Lib.hid hwl
      replace hget2 := Lib.hid hget2
      replace hsame := Lib.hid hsame
      replace hstop := Lib.hid hstop
      replace hmax := Lib.hid hmax
      replace hno := Lib.hid hno
      replace hempty := Lib.hid hempty
      replace hnext := Lib.hid hnext
      obtain ⟨g1, rfl⟩ : ∃ g, g = gk := ⟨_, rfl⟩
      go_wp2
      go_loopg [9] c (fun k nv wr => ∃ n : Nat, nv = .int .i64 n ∧ n + k = c ∧ Below w0.heap.size w0 wr)
      case atStart => exact ⟨0, rfl, by omega, hbw⟩
      case round =>
        clear hbw hci hfin
        obtain ⟨n, rfl, hnk, hbw⟩ := hrel
        have hfin := chain hb0 hbw
        obtain ⟨p, hp⟩ : ∃ p, f + n = p := ⟨_, rfl⟩
        have hwr : IntKind.i64.wrap ((f : Int) + (n : Int)) = (p : Int) := by simp [IntKind.wrap, IntKind.bits, IntKind.signed]; omega
        have hpl : p ≤ l.length := by omega
        by_cases hk1 : gk = 0
        · subst hk1
          obtain rfl : n = c := by omega
          have hn3 : n ≤ 3 := by omega
          have hfp : f ≤ p := by omega
          by_cases hA : n = m
          · have hn1 : ¬ (n : Int) < (m : Int) := by omega
            subst hA
            by_cases hm0 : n = 0
            · have hE : s2.toList.isEmpty = true := by rw [hempty.out]; simpa using hm0
              have hne : t ≠ wl ∨ wl = [] := .inr (List.eq_nil_of_length_eq_zero (by rw [hm.out]; exact hm0))
              have hnx := hnext.out hne
              have hmx := hmax.out
              rw [hm0, Nat.max_zero] at hmx
              have hn0 : ¬ (0 : Int) < (n : Int) := by omega
              replace hm0 := Lib.hid hm0
              replace hnx := Lib.hid hnx
              replace hmx := Lib.hid hmx
              clear hne
              have hbw2 : ∀ q, Below w0.heap.size w0 (wr.drewN q) := fun q => hbw.trans (Drawn.below ⟨q, rfl⟩ _)
              go_wp2_with fail
              go_quiet (fail)
              go_wp2
              go_roundg (g1 - 1)
              case measure => omega
              case rel => exact ⟨i + 1, by go_num, by omega, by first | (rw [hmx.out]; go_num) | go_num, hnx.out, hbw2 _⟩
            · have hE : s2.toList.isEmpty = false := by rw [hempty.out]; simpa using hm0
              have hn0 : (0 : Int) < (n : Int) := by omega
              have hmx : max ((f : Int) + ((maxW t i : Nat) : Int)) (p : Int) = (f : Int) + ((maxW t (i + 1) : Nat) : Int) := by rw [hmax.out]; omega
              by_cases hfe : f + n = l.length
              · have hfe' : (p : Int) = (l.length : Int) := by omega
                have htw : t = wl := lcp_all t wl (by rw [hc.out, hm.out]) (by rw [hm.out]; omega)
                have hne0 : t ≠ [] := fun e => hm0 (by rw [← hm.out, ← htw, e]; rfl)
                obtain ⟨hk1, hk2⟩ := wordK_hit hne0 (by rw [htw, hwl.out]) hi5
                have hk0 : wordK t ≠ 0 := by omega
                replace hk1 := Lib.hid hk1
                replace hk0 := Lib.hid hk0
                replace htw := Lib.hid htw
                replace hne0 := Lib.hid hne0
                replace hmx := Lib.hid hmx
                have hbw2 : ∀ q, Below w.heap.size w (wr.drewN q) := fun q => hfin.trans (Drawn.below ⟨q, rfl⟩ _)
                go_wp2_with fail
                go_quiet (fail)
                go_wp2
                go_ret3
                exact ⟨.inl ⟨hk0.out, by rw [hk1.out]; rfl⟩, hbw2 _⟩
              · have hfe' : ((p : Int) == (l.length : Int)) = false := by simp; omega
                have hnx := hnext.out (.inl (fun e => hfe (by have : t.length = wl.length := by rw [e]
                                                              rw [hm.out] at this; omega)))
                replace hnx := Lib.hid hnx
                have hbw2 : ∀ q, Below w0.heap.size w0 (wr.drewN q) := fun q => hbw.trans (Drawn.below ⟨q, rfl⟩ _)
                go_wp2_with fail
                go_quiet (fail)
                go_wp2
                go_roundg (g1 - 1)
                case measure => omega
                case rel => exact ⟨i + 1, by go_num, by omega, by first | (rw [hmx.out]; go_num) | go_num, hnx.out, hbw2 _⟩
          · have hn1 : (n : Int) < (m : Int) := by omega
            have hnm : ((n : Int) == (m : Int)) = false := by simp; omega
            have hnx := hnext.out (.inl (fun e => hA (by rw [← hc.out, ← hm.out, e, lcp_self])))
            have hE : s2.toList.isEmpty = false := by rw [hempty.out]; simp; omega
            have hmx : max ((f : Int) + ((maxW t i : Nat) : Int)) (p : Int) = (f : Int) + ((maxW t (i + 1) : Nat) : Int) := by rw [hmax.out]; omega
            have hmx0 : n = 0 → maxW t (i + 1) = maxW t i := fun e => by rw [hmax.out, e]; omega
            replace hnx := Lib.hid hnx
            replace hmx0 := Lib.hid hmx0
            by_cases hfe : f + n = l.length
            · have hn2 : decide (p < l.length) = false := by rw [decide_eq_false]; omega
              replace hfe := Lib.hid hfe
              by_cases hm0 : n = 0
              · have hn0 : ¬ (0 : Int) < (n : Int) := by omega
                have hmx := Lib.hid (hmx0.out hm0)
                replace hm0 := Lib.hid hm0
                have hbw2 : ∀ q, Below w0.heap.size w0 (wr.drewN q) := fun q => hbw.trans (Drawn.below ⟨q, rfl⟩ _)
                go_wp2_with fail
                go_quiet (fail)
                go_wp2
                go_roundg (g1 - 1)
                case measure => omega
                case rel => exact ⟨i + 1, by go_num, by omega, by first | (rw [hmx.out]; go_num) | go_num, hnx.out, hbw2 _⟩
              · have hn0 : (0 : Int) < (n : Int) := by omega
                have hbw2 : ∀ q, Below w0.heap.size w0 (wr.drewN q) := fun q => hbw.trans (Drawn.below ⟨q, rfl⟩ _)
                go_wp2_with fail
                go_quiet (fail)
                go_wp2
                go_roundg (g1 - 1)
                case measure => omega
                case rel => exact ⟨i + 1, by go_num, by omega, by first | (rw [hmx.out]; go_num) | go_num, hnx.out, hbw2 _⟩
            · have hn2 : (p : Int) < (l.length : Int) := by omega
              have hg1 := hget.out n (by rw [hsz]; omega)
              simp only [hp] at hg1
              have hg2 := hget2.out n (by rw [hsz2]; omega)
              have hdf := hstop.out (by omega) (by omega)
              obtain ⟨x, hx⟩ : ∃ x, t.getD n 0 = x := ⟨_, rfl⟩
              obtain ⟨y, hy⟩ : ∃ x, wl.getD n 0 = x := ⟨_, rfl⟩
              rw [hx] at hg1 hdf
              rw [hy] at hg2 hdf
              have hxy : ((x.toNat : Int) == (y.toNat : Int)) = false := by
                have : x.toNat ≠ y.toNat := fun e => hdf (UInt8.toNat_inj.1 e)
                simp; omega
              replace hx := Lib.hid hx
              replace hy := Lib.hid hy
              replace hfe := Lib.hid hfe
              replace hdf := Lib.hid hdf
              replace hA := Lib.hid hA
              by_cases hm0 : n = 0
              · have hn0 : ¬ (0 : Int) < (n : Int) := by omega
                have hmx := Lib.hid (hmx0.out hm0)
                replace hm0 := Lib.hid hm0
                have hbw2 : ∀ q, Below w0.heap.size w0 (wr.drewN q) := fun q => hbw.trans (Drawn.below ⟨q, rfl⟩ _)
                go_wp2_with fail
                go_quiet (fail)
                go_wp2
                go_roundg (g1 - 1)
                case measure => omega
                case rel => exact ⟨i + 1, by go_num, by omega, by first | (rw [hmx.out]; go_num) | go_num, hnx.out, hbw2 _⟩
              · have hn0 : (0 : Int) < (n : Int) := by omega
                have hbw2 : ∀ q, Below w0.heap.size w0 (wr.drewN q) := fun q => hbw.trans (Drawn.below ⟨q, rfl⟩ _)
                go_wp2_with fail
                go_quiet (fail)
                go_wp2
                go_roundg (g1 - 1)
                case measure => omega
                case rel => exact ⟨i + 1, by go_num, by omega, by first | (rw [hmx.out]; go_num) | go_num, hnx.out, hbw2 _⟩
        · have hn1 : (n : Int) < (m : Int) := by omega
          have hn2 : (p : Int) < (l.length : Int) := by omega
          have hg1 := hget.out n (by rw [hsz]; omega)
          simp only [hp] at hg1
          have hg2 := hget2.out n (by rw [hsz2]; omega)
          rw [hsame.out n (by omega)] at hg1
          obtain ⟨y, hy⟩ : ∃ x, wl.getD n 0 = x := ⟨_, rfl⟩
          rw [hy] at hg1 hg2
          replace hy := Lib.hid hy
          have hbw2 : ∀ q, Below w0.heap.size w0 (wr.drewN q) := fun q => hbw.trans (Drawn.below ⟨q, rfl⟩ _)
          have hn3 : n ≤ 3 := by omega
          go_wp2_with fail
          go_quiet (fail)
          go_wp2
          go_roundg (gk - 1)
          case measure => omega
          case rel => exact ⟨n + 1, by go_num, by omega, hbw2 _⟩
end Go.Proofs.YtdlkfnkmdlcekaaGreatDoor
