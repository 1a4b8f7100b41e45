/- The shortest digits: the nearer one of two neighbours, walked. Conditions: none. -/
/- Rounding: Round, walked: the pattern of a number. Conditions: the variables that values read. -/
/- Parse: what is wrong is thrown; words, walked. Conditions: none. -/
/- Values: a pattern's sign, magnitude and class, Decode, Key, walked. Conditions: the variables that values read. -/
/- Values: a pattern's class, Decode, walked. Conditions: the variables that values read. -/
import Derived.Test.YtncfbleeidjflaaGreatDoorPz31
import Derived.Test.YtncfbleeidjflaaGreatDoorPz30
import Derived.Test.YtncfbleeidjflaaGreatDoorPz21
namespace Go.Proofs.YtncfbleeidjflaaGreatDoor
open Go.RowKit Go.Cal
section
variable {w W W' : World} {Al Ah A1 A3 : Option Addr} {nl cl nh ch n1 c1 n3 c3 m q lN hN : Nat} {lT hT : Int} {ev : Bool}
theorem boxN (h : LiveP w W [pT (.slice A3 n3 c3) (m + 1) (q + 1), pT (.slice A1 n1 c1) m q, pT (.slice Ah nh ch) 128 hN, pT (.slice Al nl cl) 128 lN, pBlk w.heap.size #[.bool false, .slice Al nl cl, .int .i64 lT, .int .i64 0, .bool false, .slice Ah nh ch, .int .i64 hT, .int .i64 0, .bool ev] 108]) : LiveP w W [pT (.slice A3 n3 c3) (m + 1) (q + 1), pT (.slice A1 n1 c1) m q, pT (.slice Ah nh ch) 128 hN, pT (.slice Al nl cl) 128 lN, pBlk w.heap.size #[.bool false, .slice Al nl cl, .int .i64 lT, .int .i64 0, .bool false, .slice Ah nh ch, .int .i64 hT, .int .i64 0, .bool ev] 108] ∧ w.heap.size < (W).heap.size ∧ (W).cell? ⟨w.heap.size, 0, none⟩ = some (.bool false) ∧ (W).cell? ⟨w.heap.size, 1, none⟩ = some (.slice Al nl cl) ∧ (W).cell? ⟨w.heap.size, 2, none⟩ = some (.int .i64 lT) ∧ (W).cell? ⟨w.heap.size, 3, none⟩ = some (.int .i64 0) ∧ (W).cell? ⟨w.heap.size, 4, none⟩ = some (.bool false) ∧ (W).cell? ⟨w.heap.size, 5, none⟩ = some (.slice Ah nh ch) ∧ (W).cell? ⟨w.heap.size, 6, none⟩ = some (.int .i64 hT) ∧ (W).cell? ⟨w.heap.size, 7, none⟩ = some (.int .i64 0) ∧ (W).cell? ⟨w.heap.size, 8, none⟩ = some (.bool ev) := by
  have p1 := h.get (P := pBlk w.heap.size #[.bool false, .slice Al nl cl, .int .i64 lT, .int .i64 0, .bool false, .slice Ah nh ch, .int .i64 hT, .int .i64 0, .bool ev] 108) (by repeat (first | exact List.mem_cons_self | apply List.mem_cons_of_mem))
  exact ⟨h, p1.lt, p1.cell 0 _ rfl, p1.cell 1 _ rfl, p1.cell 2 _ rfl, p1.cell 3 _ rfl, p1.cell 4 _ rfl, p1.cell 5 _ rfl, p1.cell 6 _ rfl, p1.cell 7 _ rfl, p1.cell 8 _ rfl⟩
theorem keepN (h : LiveP w W [pT (.slice A3 n3 c3) (m + 1) (q + 1), pT (.slice A1 n1 c1) m q, pT (.slice Ah nh ch) 128 hN, pT (.slice Al nl cl) 128 lN, pBlk w.heap.size #[.bool false, .slice Al nl cl, .int .i64 lT, .int .i64 0, .bool false, .slice Ah nh ch, .int .i64 hT, .int .i64 0, .bool ev] 108] ∧ w.heap.size < (W).heap.size ∧ (W).cell? ⟨w.heap.size, 0, none⟩ = some (.bool false) ∧ (W).cell? ⟨w.heap.size, 1, none⟩ = some (.slice Al nl cl) ∧ (W).cell? ⟨w.heap.size, 2, none⟩ = some (.int .i64 lT) ∧ (W).cell? ⟨w.heap.size, 3, none⟩ = some (.int .i64 0) ∧ (W).cell? ⟨w.heap.size, 4, none⟩ = some (.bool false) ∧ (W).cell? ⟨w.heap.size, 5, none⟩ = some (.slice Ah nh ch) ∧ (W).cell? ⟨w.heap.size, 6, none⟩ = some (.int .i64 hT) ∧ (W).cell? ⟨w.heap.size, 7, none⟩ = some (.int .i64 0) ∧ (W).cell? ⟨w.heap.size, 8, none⟩ = some (.bool ev)) (hb : Below W.heap.size W W') : LiveP w W' [pT (.slice A3 n3 c3) (m + 1) (q + 1), pT (.slice A1 n1 c1) m q, pT (.slice Ah nh ch) 128 hN, pT (.slice Al nl cl) 128 lN, pBlk w.heap.size #[.bool false, .slice Al nl cl, .int .i64 lT, .int .i64 0, .bool false, .slice Ah nh ch, .int .i64 hT, .int .i64 0, .bool ev] 108] ∧ w.heap.size < (W').heap.size ∧ (W').cell? ⟨w.heap.size, 0, none⟩ = some (.bool false) ∧ (W').cell? ⟨w.heap.size, 1, none⟩ = some (.slice Al nl cl) ∧ (W').cell? ⟨w.heap.size, 2, none⟩ = some (.int .i64 lT) ∧ (W').cell? ⟨w.heap.size, 3, none⟩ = some (.int .i64 0) ∧ (W').cell? ⟨w.heap.size, 4, none⟩ = some (.bool false) ∧ (W').cell? ⟨w.heap.size, 5, none⟩ = some (.slice Ah nh ch) ∧ (W').cell? ⟨w.heap.size, 6, none⟩ = some (.int .i64 hT) ∧ (W').cell? ⟨w.heap.size, 7, none⟩ = some (.int .i64 0) ∧ (W').cell? ⟨w.heap.size, 8, none⟩ = some (.bool ev) := boxN (h.1.go hb)
theorem tenN1 {k : Int} (h : LiveP w W [pT (.slice A3 n3 c3) (m + 1) (q + 1), pT (.slice A1 n1 c1) m q, pT (.slice Ah nh ch) 128 hN, pT (.slice Al nl cl) 128 lN, pBlk w.heap.size #[.bool false, .slice Al nl cl, .int .i64 lT, .int .i64 0, .bool false, .slice Ah nh ch, .int .i64 hT, .int .i64 0, .bool ev] 108] ∧ w.heap.size < (W).heap.size ∧ (W).cell? ⟨w.heap.size, 0, none⟩ = some (.bool false) ∧ (W).cell? ⟨w.heap.size, 1, none⟩ = some (.slice Al nl cl) ∧ (W).cell? ⟨w.heap.size, 2, none⟩ = some (.int .i64 lT) ∧ (W).cell? ⟨w.heap.size, 3, none⟩ = some (.int .i64 0) ∧ (W).cell? ⟨w.heap.size, 4, none⟩ = some (.bool false) ∧ (W).cell? ⟨w.heap.size, 5, none⟩ = some (.slice Ah nh ch) ∧ (W).cell? ⟨w.heap.size, 6, none⟩ = some (.int .i64 hT) ∧ (W).cell? ⟨w.heap.size, 7, none⟩ = some (.int .i64 0) ∧ (W).cell? ⟨w.heap.size, 8, none⟩ = some (.bool ev)) (hmm : m ≤ 1048575) (hq : q + 1 < 18446744073709551616 ^ 128) (hk : -5000 ≤ k ∧ k ≤ 5000) : Calls Tryz.prog 152 #[.slice A1 n1 c1, .int .i64 k] W fun e w' => ∃ A n c, e = .returned (.agg #[.bool false, .slice A n c, .int .i64 k, .int .i64 k]) ∧ IsT w' (.slice A n c) 128 q ∧ Below W.heap.size W w' :=
  ten_any k (IsT.isN (h.1.get (P := pT (.slice A1 n1 c1) m q) (by repeat (first | exact List.mem_cons_self | apply List.mem_cons_of_mem)))) (by omega) (Nat.lt_of_succ_lt hq) hk
theorem tenN3 {k : Int} (h : LiveP w W [pT (.slice A3 n3 c3) (m + 1) (q + 1), pT (.slice A1 n1 c1) m q, pT (.slice Ah nh ch) 128 hN, pT (.slice Al nl cl) 128 lN, pBlk w.heap.size #[.bool false, .slice Al nl cl, .int .i64 lT, .int .i64 0, .bool false, .slice Ah nh ch, .int .i64 hT, .int .i64 0, .bool ev] 108] ∧ w.heap.size < (W).heap.size ∧ (W).cell? ⟨w.heap.size, 0, none⟩ = some (.bool false) ∧ (W).cell? ⟨w.heap.size, 1, none⟩ = some (.slice Al nl cl) ∧ (W).cell? ⟨w.heap.size, 2, none⟩ = some (.int .i64 lT) ∧ (W).cell? ⟨w.heap.size, 3, none⟩ = some (.int .i64 0) ∧ (W).cell? ⟨w.heap.size, 4, none⟩ = some (.bool false) ∧ (W).cell? ⟨w.heap.size, 5, none⟩ = some (.slice Ah nh ch) ∧ (W).cell? ⟨w.heap.size, 6, none⟩ = some (.int .i64 hT) ∧ (W).cell? ⟨w.heap.size, 7, none⟩ = some (.int .i64 0) ∧ (W).cell? ⟨w.heap.size, 8, none⟩ = some (.bool ev)) (hmm : m ≤ 1048575) (hq : q + 1 < 18446744073709551616 ^ 128) (hk : -5000 ≤ k ∧ k ≤ 5000) : Calls Tryz.prog 152 #[.slice A3 n3 c3, .int .i64 k] W fun e w' => ∃ A n c, e = .returned (.agg #[.bool false, .slice A n c, .int .i64 k, .int .i64 k]) ∧ IsT w' (.slice A n c) 128 (q + 1) ∧ Below W.heap.size W w' :=
  ten_any k (IsT.isN (h.1.get (P := pT (.slice A3 n3 c3) (m + 1) (q + 1)) (by repeat (first | exact List.mem_cons_self | apply List.mem_cons_of_mem)))) (by omega) hq hk
theorem hasN {A : Option Addr} {n c d : Nat} {k : Int} {o : Bool} (h : LiveP w W [pT (.slice A3 n3 c3) (m + 1) (q + 1), pT (.slice A1 n1 c1) m q, pT (.slice Ah nh ch) 128 hN, pT (.slice Al nl cl) 128 lN, pBlk w.heap.size #[.bool false, .slice Al nl cl, .int .i64 lT, .int .i64 0, .bool false, .slice Ah nh ch, .int .i64 hT, .int .i64 0, .bool ev] 108] ∧ w.heap.size < (W).heap.size ∧ (W).cell? ⟨w.heap.size, 0, none⟩ = some (.bool false) ∧ (W).cell? ⟨w.heap.size, 1, none⟩ = some (.slice Al nl cl) ∧ (W).cell? ⟨w.heap.size, 2, none⟩ = some (.int .i64 lT) ∧ (W).cell? ⟨w.heap.size, 3, none⟩ = some (.int .i64 0) ∧ (W).cell? ⟨w.heap.size, 4, none⟩ = some (.bool false) ∧ (W).cell? ⟨w.heap.size, 5, none⟩ = some (.slice Ah nh ch) ∧ (W).cell? ⟨w.heap.size, 6, none⟩ = some (.int .i64 hT) ∧ (W).cell? ⟨w.heap.size, 7, none⟩ = some (.int .i64 0) ∧ (W).cell? ⟨w.heap.size, 8, none⟩ = some (.bool ev)) (hv : IsT W (.slice A n c) 128 d) (h1 : -5000 ≤ lT ∧ lT ≤ 5000) (h2 : -5000 ≤ hT ∧ hT ≤ 5000) (hk : -5000 ≤ k ∧ k ≤ 5000) (ho : itvHas ⟨lN, lT, hN, hT, ev⟩ d k = o) : Calls Tryz.prog 151 #[.agg #[.bool false, .slice Al nl cl, .int .i64 lT, .int .i64 0, .bool false, .slice Ah nh ch, .int .i64 hT, .int .i64 0, .bool ev], .agg #[.bool false, .slice A n c, .int .i64 k, .int .i64 k]] W fun e w' => e = .returned (.bool o) ∧ Below W.heap.size W w' := by
  subst ho
  exact has_any ⟨lN, lT, hN, hT, ev⟩ k (h.1.get (P := pT (.slice Al nl cl) 128 lN) (by repeat (first | exact List.mem_cons_self | apply List.mem_cons_of_mem))) (h.1.get (P := pT (.slice Ah nh ch) 128 hN) (by repeat (first | exact List.mem_cons_self | apply List.mem_cons_of_mem))) hv h1 h2 hk
end
theorem even_t {w : World} {v : Value} {k N : Nat} (h : IsN w v k N) : Calls Tryz.prog 153 #[v] w fun e w' => e = .returned (.bool (N % 2 == 0)) ∧ Below w.heap.size w w' := by
  refine (even_l ((Live.start w).put h) (List.mem_cons_self)).mono ?_
  rintro e w' ⟨he, rfl⟩
  refine ⟨?_, Below.refl _ _⟩
  rw [he]
  congr 2
  rw [Nat.testBit_zero]
  by_cases h2 : N % 2 = 0
  · rw [h2]; rfl
  · have : N % 2 = 1 := by omega
    rw [this]; rfl
theorem isT_more {w : World} {v : Value} {k k' N : Nat} (h : IsT w v k N) (hk : k ≤ k') : IsT w v k' N := by
  obtain ⟨A, c, zs, h1, h2, h3, h4, h5, h6⟩ := h
  exact ⟨A, c, zs, h1, h2, h3, h4, Nat.le_trans h5 hk, h6⟩
theorem isT_shape {w : World} {v : Value} {k N : Nat} (h : IsT w v k N) : ∃ A n c, v = .slice A n c := by
  obtain ⟨A, c, zs, h1, -⟩ := h
  exact ⟨A, _, c, h1⟩
theorem flR_nonneg (N : Nat) (t k : Int) : 0 ≤ flR N t k := by
  unfold flR
  split
  · decide
  · rcases cmpV_cases ((2 * (flA N t k % flB t k) : Nat) : Int) ((flB t k : Nat) : Int) with ⟨_, h⟩ | ⟨_, h⟩ | ⟨_, h⟩ <;> rw [h] <;> decide
/-- What is told is the number, where one is told. -/
def NearOk (R : Option Nat) (w : World) (v : Value) (m : Nat) : Prop := ∀ d, R = some d → IsT w v m d
theorem NearOk.none {w : World} {v : Value} {m : Nat} : NearOk none w v m := fun d h => by cases h
theorem NearOk.some {w : World} {v : Value} {m d : Nat} (h : IsT w v m d) : NearOk (some d) w v m := fun d' h' => by injection h' with h'; subst h'; exact h
set_option maxRecDepth 100000 in
set_option maxHeartbeats 4000000 in
theorem near_any {w : World} {Al Ah A : Option Addr} {nl cl nh ch n c N : Nat} (m : Nat) (hm : 12178 ≤ m) (hmm : m ≤ 1048575) (i : Itv) (t k : Int) (hl : IsT w (.slice Al nl cl) 128 i.lowN) (hh : IsT w (.slice Ah nh ch) 128 i.highN) (hx : IsT w (.slice A n c) 128 N)
    (h1 : -5000 ≤ i.lowT ∧ i.lowT ≤ 5000) (h2 : -5000 ≤ i.highT ∧ i.highT ≤ 5000) (ht : -5000 ≤ t ∧ t ≤ 5000) (hk : -5000 ≤ k ∧ k ≤ 5000) (hq : flQ N t k + 1 < 18446744073709551616 ^ 128) :
    Calls Tryz.prog 69 #[.agg #[.bool false, .slice Al nl cl, .int .i64 i.lowT, .int .i64 0, .bool false, .slice Ah nh ch, .int .i64 i.highT, .int .i64 0, .bool i.even], .agg #[.bool false, .slice A n c, .int .i64 t, .int .i64 0], .int .i64 k] w fun e w' => ∃ A' n' c', e = .returned (.tuple #[.slice A' n' c', .bool (nigV i N t k).isSome]) ∧ NearOk (nigV i N t k) w' (.slice A' n' c') (m + 1) ∧ Below w.heap.size w w' := by
  obtain ⟨lN, lT, hN, hT, ev⟩ := i
  simp only at hl hh h1 h2
  have hfl := fun (W : World) (hx : IsT W (.slice A n c) 128 N) => xfloor_any m hm hmm false t k hx ht hk
  obtain ⟨R, hR⟩ : ∃ R, nigV ⟨lN, lT, hN, hT, ev⟩ N t k = R := ⟨_, rfl⟩
  rw [hR]
  unfold nigV at hR
  have hf0 := flR_nonneg N t k
  generalize flQ N t k = q at hfl hq hR
  generalize flR N t k = fr at hfl hR hf0
  obtain ⟨o1, ho1⟩ : ∃ o, itvHas ⟨lN, lT, hN, hT, ev⟩ q k = o := ⟨_, rfl⟩
  obtain ⟨o2, ho2⟩ : ∃ o, itvHas ⟨lN, lT, hN, hT, ev⟩ (q + 1) k = o := ⟨_, rfl⟩
  rw [ho1, ho2] at hR
  replace hfl := Lib.hid hfl
  have hb0 : Below w.heap.size w ((w.alloc (.cells #[.bool false, .slice Al nl cl, .int .i64 lT, .int .i64 0, .bool false, .slice Ah nh ch, .int .i64 hT, .int .i64 0, .bool ev] 108)).alloc (.cells #[.bool false, .slice A n c, .int .i64 t, .int .i64 0] 71)) := ((Below.refl _ _).alloc (Nat.le_refl _) _).alloc (by simp) _
  have hL0 := (LiveP.start w).go hb0
  have hL := (hL0.put (pBlk_st _ _ _) (pBlk_st _ _ _ _ _ (pBlk_made w #[.bool false, .slice Al nl cl, .int .i64 lT, .int .i64 0, .bool false, .slice Ah nh ch, .int .i64 hT, .int .i64 0, .bool ev] 108) ((Below.refl _ _).alloc (Nat.le_refl _) (.cells #[.bool false, .slice A n c, .int .i64 t, .int .i64 0] 71)))).put (pBlk_st _ _ _) (pBlk_madeS (w.alloc (.cells #[.bool false, .slice Al nl cl, .int .i64 lT, .int .i64 0, .bool false, .slice Ah nh ch, .int .i64 hT, .int .i64 0, .bool ev] 108)) #[.bool false, .slice A n c, .int .i64 t, .int .i64 0] 71 (w.heap.size + 1) (by simp))
  have hL := ((hL.put (pT_st (.slice Al nl cl) 128 lN) (hl.below hb0)).put (pT_st (.slice Ah nh ch) 128 hN) (hh.below hb0)).put (pT_st (.slice A n c) 128 N) (hx.below hb0)
  clear hb0 hL0 hl hh hx
  replace hR := Lib.hid hR
  replace ho1 := Lib.hid ho1
  replace ho2 := Lib.hid ho2
  replace h1 := Lib.hid h1
  replace h2 := Lib.hid h2
  replace hk := Lib.hid hk
  replace hq := Lib.hid hq
  have hmx : max m 1 + 1 = m + 1 := by omega
  clear ht hm
  go_enter Tryz.func69, Tryz.ntmps69
  go_wp2_with fail
  refine (hfl.out _ (hL.get (P := pT (.slice A n c) 128 N) (by repeat (first | exact List.mem_cons_self | apply List.mem_cons_of_mem)))).mono ?_
  rintro e w1 ⟨v1, rfl, hv, hb⟩
  obtain ⟨A1, n1, c1, rfl⟩ := isT_shape hv
  replace hL := (hL.go hb).put (pT_st (.slice A1 n1 c1) m q) hv
  clear hb hv
  go_wp2_with fail
  refine (of_one _).mono ?_
  rintro e w2 ⟨v2, rfl, hv, hb⟩
  replace hL := (hL.go hb).put (pT_st v2 1 1) hv
  clear hb hv
  go_wp2_with fail
  refine (add_t (IsT.isN (hL.get (P := pT (.slice A1 n1 c1) m q) (by repeat (first | exact List.mem_cons_self | apply List.mem_cons_of_mem)))) (IsT.isN (hL.get (P := pT v2 1 1) (by repeat (first | exact List.mem_cons_self | apply List.mem_cons_of_mem)))) (by omega) (by decide)).mono ?_
  rintro e w3 ⟨v3, rfl, hv, hb⟩
  rw [hmx] at hv
  obtain ⟨A3, n3, c3, rfl⟩ := isT_shape hv
  replace hL := (hL.go hb).put (pT_st (.slice A3 n3 c3) (m + 1) (q + 1)) hv
  clear hb hv
  have hS0 := boxN ((hL.keep (l' := [pT (.slice A3 n3 c3) (m + 1) (q + 1), pT (.slice A1 n1 c1) m q, pT (.slice Ah nh ch) 128 hN, pT (.slice Al nl cl) 128 lN, pBlk w.heap.size #[.bool false, .slice Al nl cl, .int .i64 lT, .int .i64 0, .bool false, .slice Ah nh ch, .int .i64 hT, .int .i64 0, .bool ev] 108]) (by simp)).go (Below.refl _ _).drew)
  by_cases hf : 0 < fr
  · go_wp2_with fail
    go_region_held3 (fun w' => LiveP w w' [pT (.slice A3 n3 c3) (m + 1) (q + 1), pT (.slice A1 n1 c1) m q, pT (.slice Ah nh ch) 128 hN, pT (.slice Al nl cl) 128 lN, pBlk w.heap.size #[.bool false, .slice Al nl cl, .int .i64 lT, .int .i64 0, .bool false, .slice Ah nh ch, .int .i64 hT, .int .i64 0, .bool ev] 108] ∧ w.heap.size < (w').heap.size ∧ (w').cell? ⟨w.heap.size, 0, none⟩ = some (.bool false) ∧ (w').cell? ⟨w.heap.size, 1, none⟩ = some (.slice Al nl cl) ∧ (w').cell? ⟨w.heap.size, 2, none⟩ = some (.int .i64 lT) ∧ (w').cell? ⟨w.heap.size, 3, none⟩ = some (.int .i64 0) ∧ (w').cell? ⟨w.heap.size, 4, none⟩ = some (.bool false) ∧ (w').cell? ⟨w.heap.size, 5, none⟩ = some (.slice Ah nh ch) ∧ (w').cell? ⟨w.heap.size, 6, none⟩ = some (.int .i64 hT) ∧ (w').cell? ⟨w.heap.size, 7, none⟩ = some (.int .i64 0) ∧ (w').cell? ⟨w.heap.size, 8, none⟩ = some (.bool ev)) (first | exact hS0 | with_reducible assumption | exact keepN (by with_reducible assumption) (by with_reducible assumption))
      (first
        | (go_at_call 152; with_reducible refine (tenN1 (by with_reducible assumption) hmm hq.out hk.out).mono ?_; rintro e w4 ⟨A4, n4, c4, rfl, hv4, hb4⟩)
        | (go_at_call 152; with_reducible refine (tenN3 (by with_reducible assumption) hmm hq.out hk.out).mono ?_; rintro e w5 ⟨A5, n5, c5, rfl, hv5, hb5⟩)
        | (go_at_call 151; with_reducible refine (hasN (by with_reducible assumption) (hv4.below (by with_reducible assumption)) h1.out h2.out hk.out ho1.out).mono ?_; rintro e w6 ⟨rfl, hb6⟩)
        | (go_at_call 151; with_reducible refine (hasN (by with_reducible assumption) hv4 h1.out h2.out hk.out ho1.out).mono ?_; rintro e w6 ⟨rfl, hb6⟩)
        | (go_at_call 151; with_reducible refine (hasN (by with_reducible assumption) (hv5.below (by with_reducible assumption)) h1.out h2.out hk.out ho2.out).mono ?_; rintro e w7 ⟨rfl, hb7⟩)
        | (go_at_call 151; with_reducible refine (hasN (by with_reducible assumption) hv5 h1.out h2.out hk.out ho2.out).mono ?_; rintro e w7 ⟨rfl, hb7⟩))
    have hq7 : LiveP w w7 [pT (.slice A3 n3 c3) (m + 1) (q + 1), pT (.slice A1 n1 c1) m q, pT (.slice Ah nh ch) 128 hN, pT (.slice Al nl cl) 128 lN, pBlk w.heap.size #[.bool false, .slice Al nl cl, .int .i64 lT, .int .i64 0, .bool false, .slice Ah nh ch, .int .i64 hT, .int .i64 0, .bool ev] 108] ∧ w.heap.size < (w7).heap.size ∧ (w7).cell? ⟨w.heap.size, 0, none⟩ = some (.bool false) ∧ (w7).cell? ⟨w.heap.size, 1, none⟩ = some (.slice Al nl cl) ∧ (w7).cell? ⟨w.heap.size, 2, none⟩ = some (.int .i64 lT) ∧ (w7).cell? ⟨w.heap.size, 3, none⟩ = some (.int .i64 0) ∧ (w7).cell? ⟨w.heap.size, 4, none⟩ = some (.bool false) ∧ (w7).cell? ⟨w.heap.size, 5, none⟩ = some (.slice Ah nh ch) ∧ (w7).cell? ⟨w.heap.size, 6, none⟩ = some (.int .i64 hT) ∧ (w7).cell? ⟨w.heap.size, 7, none⟩ = some (.int .i64 0) ∧ (w7).cell? ⟨w.heap.size, 8, none⟩ = some (.bool ev) := by with_reducible assumption
    have hL7 := hq7.1
    clear hq7 hS0 hL
    cases o1 <;> cases o2
    · have hR' := hR.out
      rw [if_neg (by simp), if_neg (by simp), if_neg (by simp)] at hR'
      subst hR'
      go_wp2
      go_ret2
      exact ⟨A1, n1, c1, (by first | rfl | trivial), NearOk.none, hL7.below⟩
    · have hR' := hR.out
      rw [if_neg (by simp), if_pos ⟨hf, rfl⟩] at hR'
      subst hR'
      go_wp2
      go_ret2
      exact ⟨A3, n3, c3, (by first | rfl | trivial), NearOk.some (hL7.get (P := pT (.slice A3 n3 c3) (m + 1) (q + 1)) (by repeat (first | exact List.mem_cons_self | apply List.mem_cons_of_mem))), hL7.below⟩
    · have hR' := hR.out
      rw [if_neg (by simp), if_neg (by simp), if_pos rfl] at hR'
      subst hR'
      go_wp2
      go_ret2
      exact ⟨A1, n1, c1, (by first | rfl | trivial), NearOk.some (isT_more (hL7.get (P := pT (.slice A1 n1 c1) m q) (by repeat (first | exact List.mem_cons_self | apply List.mem_cons_of_mem))) (Nat.le_succ m)), hL7.below⟩
    · have hR' := hR.out
      rw [if_pos ⟨rfl, hf, rfl⟩] at hR'
      by_cases h2' : 2 < fr
      · rw [if_pos (.inl h2')] at hR'
        subst hR'
        go_wp2
        go_ret2
        exact ⟨A3, n3, c3, (by first | rfl | trivial), NearOk.some (hL7.get (P := pT (.slice A3 n3 c3) (m + 1) (q + 1)) (by repeat (first | exact List.mem_cons_self | apply List.mem_cons_of_mem))), hL7.below⟩
      · by_cases h22 : fr = 2
        · subst h22
          obtain ⟨eb, heb⟩ : ∃ eb, (q % 2 == 0) = eb := ⟨_, rfl⟩
          have hev := even_t (IsT.isN (hL7.get (P := pT (.slice A1 n1 c1) m q) (by repeat (first | exact List.mem_cons_self | apply List.mem_cons_of_mem))))
          rw [heb] at hev
          replace hev := Lib.hid hev
          go_wp2_with fail
          refine hev.out.mono ?_
          rintro e w8 ⟨rfl, hb⟩
          replace hL7 := hL7.go hb
          clear hb hev
          cases eb with
          | true =>
            rw [if_neg (by simp at heb ⊢; omega)] at hR'
            subst hR'
            go_wp2
            go_ret2
            exact ⟨A1, n1, c1, (by first | rfl | trivial), NearOk.some (isT_more (hL7.get (P := pT (.slice A1 n1 c1) m q) (by repeat (first | exact List.mem_cons_self | apply List.mem_cons_of_mem))) (Nat.le_succ m)), hL7.below⟩
          | false =>
            rw [if_pos (.inr ⟨by first | rfl | trivial, by simp at heb; omega⟩)] at hR'
            subst hR'
            go_wp2
            go_ret2
            exact ⟨A3, n3, c3, (by first | rfl | trivial), NearOk.some (hL7.get (P := pT (.slice A3 n3 c3) (m + 1) (q + 1)) (by repeat (first | exact List.mem_cons_self | apply List.mem_cons_of_mem))), hL7.below⟩
        · rw [if_neg (by omega)] at hR'
          subst hR'
          have h22' : (fr == 2) = false := by simp [h22]
          go_wp2
          go_ret2
          exact ⟨A1, n1, c1, (by first | rfl | trivial), NearOk.some (isT_more (hL7.get (P := pT (.slice A1 n1 c1) m q) (by repeat (first | exact List.mem_cons_self | apply List.mem_cons_of_mem))) (Nat.le_succ m)), hL7.below⟩
  · obtain rfl : fr = 0 := by omega
    clear hf hf0
    have hS0' := hS0
    obtain ⟨-, hlt0, d0, d1, d2, d3, d4, d5, d6, d7, d8⟩ := hS0'
    have htn := fun (W : World) (h : LiveP w W [pT (.slice A3 n3 c3) (m + 1) (q + 1), pT (.slice A1 n1 c1) m q, pT (.slice Ah nh ch) 128 hN, pT (.slice Al nl cl) 128 lN, pBlk w.heap.size #[.bool false, .slice Al nl cl, .int .i64 lT, .int .i64 0, .bool false, .slice Ah nh ch, .int .i64 hT, .int .i64 0, .bool ev] 108] ∧ w.heap.size < (W).heap.size ∧ (W).cell? ⟨w.heap.size, 0, none⟩ = some (.bool false) ∧ (W).cell? ⟨w.heap.size, 1, none⟩ = some (.slice Al nl cl) ∧ (W).cell? ⟨w.heap.size, 2, none⟩ = some (.int .i64 lT) ∧ (W).cell? ⟨w.heap.size, 3, none⟩ = some (.int .i64 0) ∧ (W).cell? ⟨w.heap.size, 4, none⟩ = some (.bool false) ∧ (W).cell? ⟨w.heap.size, 5, none⟩ = some (.slice Ah nh ch) ∧ (W).cell? ⟨w.heap.size, 6, none⟩ = some (.int .i64 hT) ∧ (W).cell? ⟨w.heap.size, 7, none⟩ = some (.int .i64 0) ∧ (W).cell? ⟨w.heap.size, 8, none⟩ = some (.bool ev)) => tenN1 (k := k) h hmm hq.out hk.out
    have hhs := fun (W : World) A n c (h : LiveP w W [pT (.slice A3 n3 c3) (m + 1) (q + 1), pT (.slice A1 n1 c1) m q, pT (.slice Ah nh ch) 128 hN, pT (.slice Al nl cl) 128 lN, pBlk w.heap.size #[.bool false, .slice Al nl cl, .int .i64 lT, .int .i64 0, .bool false, .slice Ah nh ch, .int .i64 hT, .int .i64 0, .bool ev] 108] ∧ w.heap.size < (W).heap.size ∧ (W).cell? ⟨w.heap.size, 0, none⟩ = some (.bool false) ∧ (W).cell? ⟨w.heap.size, 1, none⟩ = some (.slice Al nl cl) ∧ (W).cell? ⟨w.heap.size, 2, none⟩ = some (.int .i64 lT) ∧ (W).cell? ⟨w.heap.size, 3, none⟩ = some (.int .i64 0) ∧ (W).cell? ⟨w.heap.size, 4, none⟩ = some (.bool false) ∧ (W).cell? ⟨w.heap.size, 5, none⟩ = some (.slice Ah nh ch) ∧ (W).cell? ⟨w.heap.size, 6, none⟩ = some (.int .i64 hT) ∧ (W).cell? ⟨w.heap.size, 7, none⟩ = some (.int .i64 0) ∧ (W).cell? ⟨w.heap.size, 8, none⟩ = some (.bool ev)) (hv : IsT W (.slice A n c) 128 q) => hasN (k := k) h hv h1.out h2.out hk.out ho1.out
    replace htn := Lib.hid htn
    replace hhs := Lib.hid hhs
    go_wp2_with fail
    first | (go_region_law (first
      | (go_simp; go_at_call 152; refine Calls.mono (htn.out _ hS0) ?_; rintro e w4 ⟨A4, n4, c4, rfl, hv4, hb4⟩; (have hS4 := keepN hS0 hb4); (obtain ⟨-, hlt4, g0, g1, g2, g3, g4, g5, g6, g7, g8⟩ := id hS4))
      | (go_simp; go_at_call 151; refine Calls.mono (hhs.out _ _ _ _ hS4 hv4) ?_; rintro e w7 ⟨rfl, hb7⟩))) | fail
    all_goals
      have hL7 := hS4.1.go hb7
      clear hS0 hL hS4
      have hR' := hR.out
      rw [if_neg (fun h => absurd h.2.1 (by decide)), if_neg (fun h => absurd h.1 (by decide))] at hR'
      cases o1
      · rw [if_neg (by simp)] at hR'
        subst hR'
        go_wp2
        go_ret2
        exact ⟨A1, n1, c1, (by first | rfl | trivial), NearOk.none, hL7.below⟩
      · rw [if_pos rfl] at hR'
        subst hR'
        go_wp2
        go_ret2
        exact ⟨A1, n1, c1, (by first | rfl | trivial), NearOk.some (isT_more (hL7.get (P := pT (.slice A1 n1 c1) m q) (by repeat (first | exact List.mem_cons_self | apply List.mem_cons_of_mem))) (Nat.le_succ m)), hL7.below⟩
end Go.Proofs.YtncfbleeidjflaaGreatDoor
namespace Go.Proofs.YtncfbleeidjflaaGreatDoor
open Go.RowKit Go.Cal
theorem expP_zero (N : Nat) (t f : Int) : exP N t f = 0 ↔ N = 0 := by
  constructor
  · intro h0
    rcases Nat.eq_zero_or_pos N with h3 | h3
    · exact h3
    · have := exP_pos t f h3; omega
  · intro h0; rw [h0]; exact exP_zero t f
end Go.Proofs.YtncfbleeidjflaaGreatDoor
namespace Go.Proofs.YtncfbleeidjflaaGreatDoor
open Go.RowKit Go.Cal
theorem fo_sgn (id : Int) (h1 : 1 ≤ id) (h2 : id < 15) (w : World) : Calls Tryz.prog 89 #[.agg #[.int .i64 (fK id), .int .i64 (fW id), .int .i64 (fM id), .int .i64 (fB id), .int .u64 (fT id), .int .u64 (fI id), .int .u64 (fN id)]] w fun e w' => e = .returned (.int .u64 (sgV id)) ∧ Below w.heap.size w w' := by
  obtain ⟨w1, w2, -⟩ := fo_wide h1 h2
  unfold sgV
  by_cases h4 : fK id = 4
  · rw [if_pos h4, h4]
    exact fo_nosign _ _ _ _ _ _ w
  · rw [if_neg h4]
    exact fo_sign _ _ _ _ _ _ _ w (by omega) (by omega) h4
end Go.Proofs.YtncfbleeidjflaaGreatDoor
namespace Go.Proofs.YtncfbleeidjflaaGreatDoor
open Go.RowKit Go.Cal
theorem and_pow (p : Int) (n : Nat) (hn : n ≤ 63) (h0 : 0 ≤ p) (h1 : p < 2 ^ (n + 1)) : bits BinOp.and IntKind.u64 p (2 ^ n) = if p < 2 ^ n then 0 else 2 ^ n := by
  obtain ⟨k, rfl⟩ := Int.eq_ofNat_of_zero_le h0
  have e1 : (2 : Int) ^ n = ((2 ^ n : Nat) : Int) := by push_cast; rfl
  have e2 : (2 : Int) ^ (n + 1) = ((2 ^ (n + 1) : Nat) : Int) := by push_cast; rfl
  rw [e2] at h1
  have h3 : 2 ^ n ≤ 2 ^ 63 := Nat.pow_le_pow_right (by decide) hn
  have h4 : 2 ^ (n + 1) ≤ 2 ^ 64 := Nat.pow_le_pow_right (by decide) (by omega)
  have h2 : k < 2 ^ (n + 1) := by exact_mod_cast h1
  have hb : k &&& 2 ^ n = if k < 2 ^ n then 0 else 2 ^ n := by
    apply Nat.eq_of_testBit_eq
    intro i
    rw [Nat.testBit_and, Nat.testBit_two_pow]
    by_cases hi : n = i
    · subst hi
      by_cases hk : k < 2 ^ n
      · rw [if_pos hk, Nat.testBit_lt_two_pow hk]; simp
      · rw [if_neg hk, Nat.testBit_two_pow]
        have : k.testBit n = true := by
          rw [Nat.testBit_eq_decide_div_mod_eq]
          have : k / 2 ^ n = 1 := by
            rw [Nat.pow_succ] at h2
            exact Nat.div_eq_of_lt_le (by omega) (by omega)
          rw [this]; rfl
        rw [this]; simp
    · split
      · simp [hi]
      · rw [Nat.testBit_two_pow]; simp [hi]
  rw [e1, bits_and_u64_nat _ _ (by omega) (by omega), hb]
  by_cases hk : k < 2 ^ n
  · rw [if_pos hk, if_pos (by exact_mod_cast hk)]; rfl
  · rw [if_neg hk, if_neg (fun h => hk (by exact_mod_cast h))]
set_option maxRecDepth 100000 in
set_option maxHeartbeats 1000000 in
theorem vparts_any (id p : Int) (h1 : 1 ≤ id) (h2 : id < 15) (hp0 : 0 ≤ p) (hp1 : p < 2 ^ (fW id).toNat) (w : World) :
    Calls Tryz.prog 137 #[.agg #[.int .i64 (fK id), .int .i64 (fW id), .int .i64 (fM id), .int .i64 (fB id), .int .u64 (fT id), .int .u64 (fI id), .int .u64 (fN id), .func (.func (numI (fK id))) #[] #[]], .int .u64 p] w fun e w' => e = .returned (.tuple #[.bool (partN id p), .int .u64 (partK id p)]) ∧ Below w.heap.size w w' := by
  obtain ⟨w1, w2, -⟩ := fo_wide h1 h2
  have hsg := Lib.hid fun w => fo_sgn id h1 h2 w
  have hpw : (2 : Int) ^ ((fW id).toNat - 1 + 1) = 2 ^ (fW id).toNat := by rw [show (fW id).toNat - 1 + 1 = (fW id).toNat by omega]
  have hand := and_pow p ((fW id).toNat - 1) (by omega) hp0 (by rw [hpw]; exact hp1)
  by_cases h4 : fK id = 4
  · have hS : sgV id = 0 := by unfold sgV; rw [if_pos h4]
    have hN : partN id p = false := by unfold partN; simp [h4]
    have hK : partK id p = p := by unfold partK; rw [if_pos hN]
    rw [hN, hK]
    rw [hS] at hsg
    have h0 : bits BinOp.and IntKind.u64 p 0 = 0 := by
      have : p < 18446744073709551616 := by
        have : (2 : Int) ^ (fW id).toNat ≤ 2 ^ 64 := by
          have h5 : 2 ^ (fW id).toNat ≤ 2 ^ 64 := Nat.pow_le_pow_right (by decide) w1
          exact_mod_cast h5
        omega
      obtain ⟨k, rfl⟩ := Int.eq_ofNat_of_zero_le hp0
      have := bits_and_u64_nat k 0 (by omega) (by decide)
      simpa using this
    clear hand hpw hN hK hS hp1
    replace h4 := Lib.hid h4
    go_enter Tryz.func137, Tryz.ntmps137
    go_wp2_with fail
    refine (hsg.out _).mono ?_
    rintro e u1 ⟨rfl, hb⟩
    go_wp2
    go_ret2
    exact ⟨rfl, ((Below.refl _ _).alloc (Nat.le_refl _) _).trans (hb.mono (by simp))⟩
  · have hS : sgV id = 2 ^ ((fW id).toNat - 1) := by unfold sgV; rw [if_neg h4]
    rw [hS] at hsg
    by_cases hlt : p < 2 ^ ((fW id).toNat - 1)
    · rw [if_pos hlt] at hand
      have hN : partN id p = false := by unfold partN; simp; intro; omega
      have hK : partK id p = p := by unfold partK; rw [if_pos hN]
      rw [hN, hK]
      clear hpw hN hK hS hp1 hlt
      replace h4 := Lib.hid h4
      go_enter Tryz.func137, Tryz.ntmps137
      go_wp2_with fail
      refine (hsg.out _).mono ?_
      rintro e u1 ⟨rfl, hb⟩
      go_wp2
      go_ret2
      exact ⟨rfl, ((Below.refl _ _).alloc (Nat.le_refl _) _).trans (hb.mono (by simp))⟩
    · rw [if_neg hlt] at hand
      have hN : partN id p = true := by unfold partN; simp [h4]; omega
      have hpos := pow_pos ((fW id).toNat - 1)
      have hne : ((2 : Int) ^ ((fW id).toNat - 1) == 0) = false := by simp; omega
      by_cases h2k : fK id = 2
      · have hK : partK id p = p - 2 ^ ((fW id).toNat - 1) := by unfold partK; rw [if_neg (by rw [hN]; decide), if_pos h2k]
        have hhm := half_mod p ((fW id).toNat - 1) hp0 (by rw [hpw]; exact hp1) (by omega)
        have hmod : p % 2 ^ ((fW id).toNat - 1) = p - 2 ^ ((fW id).toNat - 1) := by
          rw [← Int.sub_emod_right]
          exact Int.emod_eq_of_lt (by omega) (by rw [← hpw, Int.pow_succ] at hp1; omega)
        rw [hmod] at hhm
        rw [hN, hK]
        have k2 : (fK id == 2) = true := by simp [h2k]
        replace hhm := Lib.hid hhm
        clear hpw hN hK hS hp1 hlt hmod hpos
        replace h4 := Lib.hid h4
        replace h2k := Lib.hid h2k
        go_enter Tryz.func137, Tryz.ntmps137
        go_wp2_with fail
        refine (hsg.out _).mono ?_
        rintro e u1 ⟨rfl, hb⟩
        have hB : Below w.heap.size w u1 := ((Below.refl _ _).alloc (Nat.le_refl _) _).trans (hb.mono (by simp))
        have hp := pBlk_st _ _ _ _ _ (pBlk_made w #[.int .i64 (fK id), .int .i64 (fW id), .int .i64 (fM id), .int .i64 (fB id), .int .u64 (fT id), .int .u64 (fI id), .int .u64 (fN id), .func (.func (numI (fK id))) #[] #[]] 190) hb
        obtain ⟨r0, r1, r2, r3, r4, r5, r6, r7⟩ := cells8 hp
        go_wp2_with fail
        refine (hsg.out _).mono ?_
        rintro e u2 ⟨rfl, hb2⟩
        go_wp2
        rw [hhm.out]
        go_ret2
        exact ⟨rfl, hB.trans (hb2.mono hB.size)⟩
      · have hK : partK id p = (-p) % 2 ^ (fW id).toNat := by unfold partK; rw [if_neg (by rw [hN]; decide), if_neg h2k]
        have hpa := Lib.hid (pat_and p (fW id).toNat w1)
        have hmk := Lib.hid (fun w => fo_mask (fK id) (fW id) (fM id) (fB id) (fT id) (fI id) (fN id) w (by omega) (by omega))
        rw [hN, hK]
        have k2 : (fK id == 2) = false := by simp [h2k]
        clear hpw hN hK hS hp1 hlt hpos
        replace h4 := Lib.hid h4
        replace h2k := Lib.hid h2k
        go_enter Tryz.func137, Tryz.ntmps137
        go_wp2_with fail
        refine (hsg.out _).mono ?_
        rintro e u1 ⟨rfl, hb⟩
        have hB : Below w.heap.size w u1 := ((Below.refl _ _).alloc (Nat.le_refl _) _).trans (hb.mono (by simp))
        have hp := pBlk_st _ _ _ _ _ (pBlk_made w #[.int .i64 (fK id), .int .i64 (fW id), .int .i64 (fM id), .int .i64 (fB id), .int .u64 (fT id), .int .u64 (fI id), .int .u64 (fN id), .func (.func (numI (fK id))) #[] #[]] 190) hb
        obtain ⟨r0, r1, r2, r3, r4, r5, r6, r7⟩ := cells8 hp
        go_wp2_with fail
        refine (hmk.out _).mono ?_
        rintro e u2 ⟨rfl, hb2⟩
        go_wp2
        rw [hpa.out]
        go_ret2
        exact ⟨rfl, hB.trans (hb2.mono hB.size)⟩
end Go.Proofs.YtncfbleeidjflaaGreatDoor
namespace Go.Proofs.YtncfbleeidjflaaGreatDoor
open Go.RowKit Go.Cal
theorem class_cases (id p : Int) : 
    ((fK id == 2) = true ∧ (fK id != 2) = false ∧ (partK id p == fI id) = true ∧ (fI id != 0) = true ∧ classV id p = 3) ∨
    ((fK id == 2) = true ∧ (fK id != 2) = false ∧ (fK id != 4) = true ∧ ((partK id p == fI id) = false ∨ (partK id p == fI id) = true ∧ (fI id != 0) = false) ∧
      ((fT id < partK id p ∧ classV id p = 4) ∨ (¬ fT id < partK id p ∧ (partK id p == 0) = true ∧ classV id p = 1) ∨ (¬ fT id < partK id p ∧ (partK id p == 0) = false ∧ classV id p = 2))) ∨
    ((fK id == 2) = false ∧ (fK id != 2) = true ∧
      (((fN id != 0) = true ∧ (p == fN id) = true ∧ classV id p = 4) ∨
       (((fN id != 0) = false ∨ (fN id != 0) = true ∧ (p == fN id) = false) ∧
         (((partK id p == 0) = true ∧ (fK id != 4) = true ∧ classV id p = 1) ∨ ((partK id p == 0) = true ∧ (fK id != 4) = false ∧ classV id p = 2) ∨ ((partK id p == 0) = false ∧ classV id p = 2))))) := by
  unfold classV
  generalize partK id p = key
  by_cases hk : fK id = 2
  · by_cases hi : key = fI id ∧ fI id ≠ 0
    · left; rw [if_pos ⟨hk, hi⟩]; simp [hk, hi.1, hi.2]
    · right; left
      rw [if_neg (fun h => hi ⟨h.2.1, h.2.2⟩)]
      refine ⟨by simp [hk], by simp [hk], by simp [hk], ?_, ?_⟩
      · by_cases hx : key = fI id
        · right; refine ⟨by simp [hx], ?_⟩; simp; exact Classical.byContradiction fun h => hi ⟨hx, h⟩
        · left; simp [hx]
      · by_cases ht : fT id < key
        · left; rw [if_pos (.inl ⟨hk, ht⟩)]; exact ⟨ht, rfl⟩
        · right
          rw [if_neg (fun h => by rcases h with h | h; exact ht h.2; exact h.1 hk)]
          by_cases h0 : key = 0
          · left; rw [if_pos ⟨h0, by omega⟩]; exact ⟨ht, by simp [h0], rfl⟩
          · right; rw [if_neg (fun h => h0 h.1)]; exact ⟨ht, by simp [h0], rfl⟩
  · right; right
    refine ⟨by simp [hk], by simp [hk], ?_⟩
    rw [if_neg (fun h => hk h.1)]
    by_cases hn : fN id ≠ 0 ∧ p = fN id
    · left; rw [if_pos (.inr ⟨hk, hn⟩)]; exact ⟨by simp [hn.1], by simp [hn.2], rfl⟩
    · right
      rw [if_neg (fun h => by rcases h with h | h; exact hk h.1; exact hn h.2)]
      refine ⟨?_, ?_⟩
      · by_cases h0 : fN id = 0
        · left; simp [h0]
        · right; refine ⟨by simp [h0], ?_⟩; simp; exact fun h => hn ⟨h0, h⟩
      · by_cases h0 : key = 0
        · by_cases h4 : fK id = 4
          · right; left; rw [if_neg (fun h => h.2 h4)]; exact ⟨by simp [h0], by simp [h4], rfl⟩
          · left; rw [if_pos ⟨h0, h4⟩]; exact ⟨by simp [h0], by simp [h4], rfl⟩
        · right; right; rw [if_neg (fun h => h0 h.1)]; exact ⟨by simp [h0], rfl⟩
set_option maxRecDepth 100000 in
set_option maxHeartbeats 1000000 in
theorem vclass_any (id p : Int) (w : World) :
    Calls Tryz.prog 138 #[.agg #[.int .i64 (fK id), .int .i64 (fW id), .int .i64 (fM id), .int .i64 (fB id), .int .u64 (fT id), .int .u64 (fI id), .int .u64 (fN id), .func (.func (numI (fK id))) #[] #[]], .int .u64 p, .int .u64 (partK id p)] w fun e w' => e = .returned (.int .i64 (classV id p)) ∧ Below w.heap.size w w' := by
  have hc := class_cases id p
  generalize partK id p = key at hc ⊢
  rcases hc with ⟨k1, k2, k3, k4, hV⟩ | ⟨k1, k2, k3, k4, hV⟩ | ⟨k1, k2, hV⟩
  · rw [hV]
    go_enter Tryz.func138, Tryz.ntmps138
    go_wp2
    go_ret
    exact ⟨rfl, (Below.refl _ _).alloc (Nat.le_refl _) _⟩
  · rcases k4 with k4 | ⟨k4, k5⟩
    all_goals
      rcases hV with ⟨k6, hV⟩ | ⟨k6, k7, hV⟩ | ⟨k6, k7, hV⟩
      all_goals
        rw [hV]
        go_enter Tryz.func138, Tryz.ntmps138
        go_wp2
        go_ret
        exact ⟨rfl, (Below.refl _ _).alloc (Nat.le_refl _) _⟩
  · rcases hV with ⟨k3, k4, hV⟩ | ⟨k3 | ⟨k3, k4⟩, ⟨k5, k6, hV⟩ | ⟨k5, k6, hV⟩ | ⟨k5, hV⟩⟩
    all_goals
      rw [hV]
      go_enter Tryz.func138, Tryz.ntmps138
      go_wp2
      go_ret
      exact ⟨rfl, (Below.refl _ _).alloc (Nat.le_refl _) _⟩
/-- What Decode tells. -/
def decN (id p : Int) : Bool := if classV id p = 4 then false else partN id p
def decM (id p : Int) : Nat := if classV id p = 2 then (magV id 0 (partK id p).toNat).1 else 0
def decE (id p : Int) : Int := if classV id p = 2 then (magV id 0 (partK id p).toNat).2 else 0
theorem partK_nonneg {id p : Int} (hp0 : 0 ≤ p) : 0 ≤ partK id p := by
  unfold partK partN
  split
  · exact hp0
  · rename_i h
    split
    · simp at h; omega
    · exact Int.emod_nonneg _ (by have := pow_pos (fW id).toNat; omega)
/-- A number's magnitude is one. -/
theorem class_two {id p : Int} (h1 : 1 ≤ id) (h2 : id < 15) (hp0 : 0 ≤ p) (hp1 : p < 2 ^ (fW id).toNat) (hc : classV id p = 2) : partK id p ≤ fitM id ∧ partK id p ≤ mostV id (partN id p) ∧ (fK id ≠ 4 → partK id p ≠ 0) ∧ (partN id p = true → fK id ≠ 4) := by
  rcases id_cases h1 h2 with rfl | rfl | rfl | rfl | rfl | rfl | rfl | rfl | rfl | rfl | rfl | rfl | rfl | rfl <;>
    simp [classV, partK, partN, fitM, mostV, fK, fW, fT, fN, fI] at hp1 hc ⊢ <;> (repeat' split at hc) <;> simp_all <;> omega
end Go.Proofs.YtncfbleeidjflaaGreatDoor
