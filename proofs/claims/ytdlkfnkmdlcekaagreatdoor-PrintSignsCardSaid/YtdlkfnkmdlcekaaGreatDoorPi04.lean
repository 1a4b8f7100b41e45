/- The shortest digits: the nearer one of two neighbours, walked. Conditions: none. -/
/- Values: a pattern's sign, magnitude and class, Decode, Key, walked. Conditions: the variables that values read. -/
/- Values: a pattern's class, Decode, walked. Conditions: the variables that values read. -/
/- Values: Decode, Key, walked. Conditions: the variables that values read. -/
/- Values: Key, walked. Conditions: the variables that values read. -/
import Derived.Test.YtdlkfnkmdlcekaaGreatDoorPi03
import Derived.Test.YtdlkfnkmdlcekaaGreatDoorFo27
import Derived.Test.YtdlkfnkmdlcekaaGreatDoorFo29
namespace Go.Proofs.YtdlkfnkmdlcekaaGreatDoor
open Go.RowKit Go.Cal
section
variable {w W W' : World} {Al Ah A1 A3 : Option Addr} {nl cl nh ch n1 c1 n3 c3 m q lN hN : Nat} {lT hT : Int} {ev : Bool}
theorem boxN (h : LiveP w W [pT (.slice A3 n3 c3) (m + 1) (q + 1), pT (.slice A1 n1 c1) m q, pT (.slice Ah nh ch) 128 hN, pT (.slice Al nl cl) 128 lN, pBlk w.heap.size #[.bool false, .slice Al nl cl, .int .i64 lT, .int .i64 0, .bool false, .slice Ah nh ch, .int .i64 hT, .int .i64 0, .bool ev] 159]) : LiveP w W [pT (.slice A3 n3 c3) (m + 1) (q + 1), pT (.slice A1 n1 c1) m q, pT (.slice Ah nh ch) 128 hN, pT (.slice Al nl cl) 128 lN, pBlk w.heap.size #[.bool false, .slice Al nl cl, .int .i64 lT, .int .i64 0, .bool false, .slice Ah nh ch, .int .i64 hT, .int .i64 0, .bool ev] 159] ∧ w.heap.size < (W).heap.size ∧ (W).cell? ⟨w.heap.size, 0, none⟩ = some (.bool false) ∧ (W).cell? ⟨w.heap.size, 1, none⟩ = some (.slice Al nl cl) ∧ (W).cell? ⟨w.heap.size, 2, none⟩ = some (.int .i64 lT) ∧ (W).cell? ⟨w.heap.size, 3, none⟩ = some (.int .i64 0) ∧ (W).cell? ⟨w.heap.size, 4, none⟩ = some (.bool false) ∧ (W).cell? ⟨w.heap.size, 5, none⟩ = some (.slice Ah nh ch) ∧ (W).cell? ⟨w.heap.size, 6, none⟩ = some (.int .i64 hT) ∧ (W).cell? ⟨w.heap.size, 7, none⟩ = some (.int .i64 0) ∧ (W).cell? ⟨w.heap.size, 8, none⟩ = some (.bool ev) := by
  have p1 := h.get (P := pBlk w.heap.size #[.bool false, .slice Al nl cl, .int .i64 lT, .int .i64 0, .bool false, .slice Ah nh ch, .int .i64 hT, .int .i64 0, .bool ev] 159) (by repeat (first | exact List.mem_cons_self | apply List.mem_cons_of_mem))
  exact ⟨h, p1.lt, p1.cell 0 _ rfl, p1.cell 1 _ rfl, p1.cell 2 _ rfl, p1.cell 3 _ rfl, p1.cell 4 _ rfl, p1.cell 5 _ rfl, p1.cell 6 _ rfl, p1.cell 7 _ rfl, p1.cell 8 _ rfl⟩
theorem keepN (h : LiveP w W [pT (.slice A3 n3 c3) (m + 1) (q + 1), pT (.slice A1 n1 c1) m q, pT (.slice Ah nh ch) 128 hN, pT (.slice Al nl cl) 128 lN, pBlk w.heap.size #[.bool false, .slice Al nl cl, .int .i64 lT, .int .i64 0, .bool false, .slice Ah nh ch, .int .i64 hT, .int .i64 0, .bool ev] 159] ∧ w.heap.size < (W).heap.size ∧ (W).cell? ⟨w.heap.size, 0, none⟩ = some (.bool false) ∧ (W).cell? ⟨w.heap.size, 1, none⟩ = some (.slice Al nl cl) ∧ (W).cell? ⟨w.heap.size, 2, none⟩ = some (.int .i64 lT) ∧ (W).cell? ⟨w.heap.size, 3, none⟩ = some (.int .i64 0) ∧ (W).cell? ⟨w.heap.size, 4, none⟩ = some (.bool false) ∧ (W).cell? ⟨w.heap.size, 5, none⟩ = some (.slice Ah nh ch) ∧ (W).cell? ⟨w.heap.size, 6, none⟩ = some (.int .i64 hT) ∧ (W).cell? ⟨w.heap.size, 7, none⟩ = some (.int .i64 0) ∧ (W).cell? ⟨w.heap.size, 8, none⟩ = some (.bool ev)) (hb : Below W.heap.size W W') : LiveP w W' [pT (.slice A3 n3 c3) (m + 1) (q + 1), pT (.slice A1 n1 c1) m q, pT (.slice Ah nh ch) 128 hN, pT (.slice Al nl cl) 128 lN, pBlk w.heap.size #[.bool false, .slice Al nl cl, .int .i64 lT, .int .i64 0, .bool false, .slice Ah nh ch, .int .i64 hT, .int .i64 0, .bool ev] 159] ∧ w.heap.size < (W').heap.size ∧ (W').cell? ⟨w.heap.size, 0, none⟩ = some (.bool false) ∧ (W').cell? ⟨w.heap.size, 1, none⟩ = some (.slice Al nl cl) ∧ (W').cell? ⟨w.heap.size, 2, none⟩ = some (.int .i64 lT) ∧ (W').cell? ⟨w.heap.size, 3, none⟩ = some (.int .i64 0) ∧ (W').cell? ⟨w.heap.size, 4, none⟩ = some (.bool false) ∧ (W').cell? ⟨w.heap.size, 5, none⟩ = some (.slice Ah nh ch) ∧ (W').cell? ⟨w.heap.size, 6, none⟩ = some (.int .i64 hT) ∧ (W').cell? ⟨w.heap.size, 7, none⟩ = some (.int .i64 0) ∧ (W').cell? ⟨w.heap.size, 8, none⟩ = some (.bool ev) := boxN (h.1.go hb)
theorem tenN1 {k : Int} (h : LiveP w W [pT (.slice A3 n3 c3) (m + 1) (q + 1), pT (.slice A1 n1 c1) m q, pT (.slice Ah nh ch) 128 hN, pT (.slice Al nl cl) 128 lN, pBlk w.heap.size #[.bool false, .slice Al nl cl, .int .i64 lT, .int .i64 0, .bool false, .slice Ah nh ch, .int .i64 hT, .int .i64 0, .bool ev] 159] ∧ w.heap.size < (W).heap.size ∧ (W).cell? ⟨w.heap.size, 0, none⟩ = some (.bool false) ∧ (W).cell? ⟨w.heap.size, 1, none⟩ = some (.slice Al nl cl) ∧ (W).cell? ⟨w.heap.size, 2, none⟩ = some (.int .i64 lT) ∧ (W).cell? ⟨w.heap.size, 3, none⟩ = some (.int .i64 0) ∧ (W).cell? ⟨w.heap.size, 4, none⟩ = some (.bool false) ∧ (W).cell? ⟨w.heap.size, 5, none⟩ = some (.slice Ah nh ch) ∧ (W).cell? ⟨w.heap.size, 6, none⟩ = some (.int .i64 hT) ∧ (W).cell? ⟨w.heap.size, 7, none⟩ = some (.int .i64 0) ∧ (W).cell? ⟨w.heap.size, 8, none⟩ = some (.bool ev)) (hmm : m ≤ 1048575) (hq : q + 1 < 18446744073709551616 ^ 128) (hk : -5000 ≤ k ∧ k ≤ 5000) : Calls Tryz.prog 132 #[.slice A1 n1 c1, .int .i64 k] W fun e w' => ∃ A n c, e = .returned (.agg #[.bool false, .slice A n c, .int .i64 k, .int .i64 k]) ∧ IsT w' (.slice A n c) 128 q ∧ Below W.heap.size W w' :=
  ten_any k (IsT.isN (h.1.get (P := pT (.slice A1 n1 c1) m q) (by repeat (first | exact List.mem_cons_self | apply List.mem_cons_of_mem)))) (by omega) (Nat.lt_of_succ_lt hq) hk
theorem tenN3 {k : Int} (h : LiveP w W [pT (.slice A3 n3 c3) (m + 1) (q + 1), pT (.slice A1 n1 c1) m q, pT (.slice Ah nh ch) 128 hN, pT (.slice Al nl cl) 128 lN, pBlk w.heap.size #[.bool false, .slice Al nl cl, .int .i64 lT, .int .i64 0, .bool false, .slice Ah nh ch, .int .i64 hT, .int .i64 0, .bool ev] 159] ∧ w.heap.size < (W).heap.size ∧ (W).cell? ⟨w.heap.size, 0, none⟩ = some (.bool false) ∧ (W).cell? ⟨w.heap.size, 1, none⟩ = some (.slice Al nl cl) ∧ (W).cell? ⟨w.heap.size, 2, none⟩ = some (.int .i64 lT) ∧ (W).cell? ⟨w.heap.size, 3, none⟩ = some (.int .i64 0) ∧ (W).cell? ⟨w.heap.size, 4, none⟩ = some (.bool false) ∧ (W).cell? ⟨w.heap.size, 5, none⟩ = some (.slice Ah nh ch) ∧ (W).cell? ⟨w.heap.size, 6, none⟩ = some (.int .i64 hT) ∧ (W).cell? ⟨w.heap.size, 7, none⟩ = some (.int .i64 0) ∧ (W).cell? ⟨w.heap.size, 8, none⟩ = some (.bool ev)) (hmm : m ≤ 1048575) (hq : q + 1 < 18446744073709551616 ^ 128) (hk : -5000 ≤ k ∧ k ≤ 5000) : Calls Tryz.prog 132 #[.slice A3 n3 c3, .int .i64 k] W fun e w' => ∃ A n c, e = .returned (.agg #[.bool false, .slice A n c, .int .i64 k, .int .i64 k]) ∧ IsT w' (.slice A n c) 128 (q + 1) ∧ Below W.heap.size W w' :=
  ten_any k (IsT.isN (h.1.get (P := pT (.slice A3 n3 c3) (m + 1) (q + 1)) (by repeat (first | exact List.mem_cons_self | apply List.mem_cons_of_mem)))) (by omega) hq hk
theorem hasN {A : Option Addr} {n c d : Nat} {k : Int} {o : Bool} (h : LiveP w W [pT (.slice A3 n3 c3) (m + 1) (q + 1), pT (.slice A1 n1 c1) m q, pT (.slice Ah nh ch) 128 hN, pT (.slice Al nl cl) 128 lN, pBlk w.heap.size #[.bool false, .slice Al nl cl, .int .i64 lT, .int .i64 0, .bool false, .slice Ah nh ch, .int .i64 hT, .int .i64 0, .bool ev] 159] ∧ w.heap.size < (W).heap.size ∧ (W).cell? ⟨w.heap.size, 0, none⟩ = some (.bool false) ∧ (W).cell? ⟨w.heap.size, 1, none⟩ = some (.slice Al nl cl) ∧ (W).cell? ⟨w.heap.size, 2, none⟩ = some (.int .i64 lT) ∧ (W).cell? ⟨w.heap.size, 3, none⟩ = some (.int .i64 0) ∧ (W).cell? ⟨w.heap.size, 4, none⟩ = some (.bool false) ∧ (W).cell? ⟨w.heap.size, 5, none⟩ = some (.slice Ah nh ch) ∧ (W).cell? ⟨w.heap.size, 6, none⟩ = some (.int .i64 hT) ∧ (W).cell? ⟨w.heap.size, 7, none⟩ = some (.int .i64 0) ∧ (W).cell? ⟨w.heap.size, 8, none⟩ = some (.bool ev)) (hv : IsT W (.slice A n c) 128 d) (h1 : -5000 ≤ lT ∧ lT ≤ 5000) (h2 : -5000 ≤ hT ∧ hT ≤ 5000) (hk : -5000 ≤ k ∧ k ≤ 5000) (ho : itvHas ⟨lN, lT, hN, hT, ev⟩ d k = o) : Calls Tryz.prog 131 #[.agg #[.bool false, .slice Al nl cl, .int .i64 lT, .int .i64 0, .bool false, .slice Ah nh ch, .int .i64 hT, .int .i64 0, .bool ev], .agg #[.bool false, .slice A n c, .int .i64 k, .int .i64 k]] W fun e w' => e = .returned (.bool o) ∧ Below W.heap.size W w' := by
  subst ho
  exact has_any ⟨lN, lT, hN, hT, ev⟩ k (h.1.get (P := pT (.slice Al nl cl) 128 lN) (by repeat (first | exact List.mem_cons_self | apply List.mem_cons_of_mem))) (h.1.get (P := pT (.slice Ah nh ch) 128 hN) (by repeat (first | exact List.mem_cons_self | apply List.mem_cons_of_mem))) hv h1 h2 hk
end
theorem even_t {w : World} {v : Value} {k N : Nat} (h : IsN w v k N) : Calls Tryz.prog 133 #[v] w fun e w' => e = .returned (.bool (N % 2 == 0)) ∧ Below w.heap.size w w' := by
  refine (even_l ((Live.start w).put h) (List.mem_cons_self)).mono ?_
  rintro e w' ⟨he, rfl⟩
  refine ⟨?_, Below.refl _ _⟩
  rw [he]
  congr 2
  rw [Nat.testBit_zero]
  by_cases h2 : N % 2 = 0
  · rw [h2]; rfl
  · have : N % 2 = 1 := by omega
    rw [this]; rfl
theorem isT_more {w : World} {v : Value} {k k' N : Nat} (h : IsT w v k N) (hk : k ≤ k') : IsT w v k' N := by
  obtain ⟨A, c, zs, h1, h2, h3, h4, h5, h6⟩ := h
  exact ⟨A, c, zs, h1, h2, h3, h4, Nat.le_trans h5 hk, h6⟩
theorem isT_shape {w : World} {v : Value} {k N : Nat} (h : IsT w v k N) : ∃ A n c, v = .slice A n c := by
  obtain ⟨A, c, zs, h1, -⟩ := h
  exact ⟨A, _, c, h1⟩
theorem flR_nonneg (N : Nat) (t k : Int) : 0 ≤ flR N t k := by
  unfold flR
  split
  · decide
  · rcases cmpV_cases ((2 * (flA N t k % flB t k) : Nat) : Int) ((flB t k : Nat) : Int) with ⟨_, h⟩ | ⟨_, h⟩ | ⟨_, h⟩ <;> rw [h] <;> decide
/-- What is told is the number, where one is told. -/
def NearOk (R : Option Nat) (w : World) (v : Value) (m : Nat) : Prop := ∀ d, R = some d → IsT w v m d
theorem NearOk.none {w : World} {v : Value} {m : Nat} : NearOk none w v m := fun d h => by cases h
theorem NearOk.some {w : World} {v : Value} {m d : Nat} (h : IsT w v m d) : NearOk (some d) w v m := fun d' h' => by injection h' with h'; subst h'; exact h
set_option maxRecDepth 100000 in
set_option maxHeartbeats 4000000 in
theorem near_any {w : World} {Al Ah A : Option Addr} {nl cl nh ch n c N : Nat} (m : Nat) (hm : 12178 ≤ m) (hmm : m ≤ 1048575) (i : Itv) (t k : Int) (hl : IsT w (.slice Al nl cl) 128 i.lowN) (hh : IsT w (.slice Ah nh ch) 128 i.highN) (hx : IsT w (.slice A n c) 128 N)
    (h1 : -5000 ≤ i.lowT ∧ i.lowT ≤ 5000) (h2 : -5000 ≤ i.highT ∧ i.highT ≤ 5000) (ht : -5000 ≤ t ∧ t ≤ 5000) (hk : -5000 ≤ k ∧ k ≤ 5000) (hq : flQ N t k + 1 < 18446744073709551616 ^ 128) :
    Calls Tryz.prog 99 #[.agg #[.bool false, .slice Al nl cl, .int .i64 i.lowT, .int .i64 0, .bool false, .slice Ah nh ch, .int .i64 i.highT, .int .i64 0, .bool i.even], .agg #[.bool false, .slice A n c, .int .i64 t, .int .i64 0], .int .i64 k] w fun e w' => ∃ A' n' c', e = .returned (.tuple #[.slice A' n' c', .bool (nigV i N t k).isSome]) ∧ NearOk (nigV i N t k) w' (.slice A' n' c') (m + 1) ∧ Below w.heap.size w w' := by
  obtain ⟨lN, lT, hN, hT, ev⟩ := i
  simp only at hl hh h1 h2
  have hfl := fun (W : World) (hx : IsT W (.slice A n c) 128 N) => xfloor_any m hm hmm false t k hx ht hk
  obtain ⟨R, hR⟩ : ∃ R, nigV ⟨lN, lT, hN, hT, ev⟩ N t k = R := ⟨_, rfl⟩
  rw [hR]
  unfold nigV at hR
  have hf0 := flR_nonneg N t k
  generalize flQ N t k = q at hfl hq hR
  generalize flR N t k = fr at hfl hR hf0
  obtain ⟨o1, ho1⟩ : ∃ o, itvHas ⟨lN, lT, hN, hT, ev⟩ q k = o := ⟨_, rfl⟩
  obtain ⟨o2, ho2⟩ : ∃ o, itvHas ⟨lN, lT, hN, hT, ev⟩ (q + 1) k = o := ⟨_, rfl⟩
  rw [ho1, ho2] at hR
  replace hfl := Lib.hid hfl
  have hb0 : Below w.heap.size w ((w.alloc (.cells #[.bool false, .slice Al nl cl, .int .i64 lT, .int .i64 0, .bool false, .slice Ah nh ch, .int .i64 hT, .int .i64 0, .bool ev] 159)).alloc (.cells #[.bool false, .slice A n c, .int .i64 t, .int .i64 0] 56)) := ((Below.refl _ _).alloc (Nat.le_refl _) _).alloc (by simp) _
  have hL0 := (LiveP.start w).go hb0
  have hL := (hL0.put (pBlk_st _ _ _) (pBlk_st _ _ _ _ _ (pBlk_made w #[.bool false, .slice Al nl cl, .int .i64 lT, .int .i64 0, .bool false, .slice Ah nh ch, .int .i64 hT, .int .i64 0, .bool ev] 159) ((Below.refl _ _).alloc (Nat.le_refl _) (.cells #[.bool false, .slice A n c, .int .i64 t, .int .i64 0] 56)))).put (pBlk_st _ _ _) (pBlk_madeS (w.alloc (.cells #[.bool false, .slice Al nl cl, .int .i64 lT, .int .i64 0, .bool false, .slice Ah nh ch, .int .i64 hT, .int .i64 0, .bool ev] 159)) #[.bool false, .slice A n c, .int .i64 t, .int .i64 0] 56 (w.heap.size + 1) (by simp))
  have hL := ((hL.put (pT_st (.slice Al nl cl) 128 lN) (hl.below hb0)).put (pT_st (.slice Ah nh ch) 128 hN) (hh.below hb0)).put (pT_st (.slice A n c) 128 N) (hx.below hb0)
  clear hb0 hL0 hl hh hx
  replace hR := Lib.hid hR
  replace ho1 := Lib.hid ho1
  replace ho2 := Lib.hid ho2
  replace h1 := Lib.hid h1
  replace h2 := Lib.hid h2
  replace hk := Lib.hid hk
  replace hq := Lib.hid hq
  have hmx : max m 1 + 1 = m + 1 := by omega
  clear ht hm
  go_enter Tryz.func99, Tryz.ntmps99
  go_wp2_with fail
  refine (hfl.out _ (hL.get (P := pT (.slice A n c) 128 N) (by repeat (first | exact List.mem_cons_self | apply List.mem_cons_of_mem)))).mono ?_
  rintro e w1 ⟨v1, rfl, hv, hb⟩
  obtain ⟨A1, n1, c1, rfl⟩ := isT_shape hv
  replace hL := (hL.go hb).put (pT_st (.slice A1 n1 c1) m q) hv
  clear hb hv
  go_wp2_with fail
  refine (of_one _).mono ?_
  rintro e w2 ⟨v2, rfl, hv, hb⟩
  replace hL := (hL.go hb).put (pT_st v2 1 1) hv
  clear hb hv
  go_wp2_with fail
  refine (add_t (IsT.isN (hL.get (P := pT (.slice A1 n1 c1) m q) (by repeat (first | exact List.mem_cons_self | apply List.mem_cons_of_mem)))) (IsT.isN (hL.get (P := pT v2 1 1) (by repeat (first | exact List.mem_cons_self | apply List.mem_cons_of_mem)))) (by omega) (by decide)).mono ?_
  rintro e w3 ⟨v3, rfl, hv, hb⟩
  rw [hmx] at hv
  obtain ⟨A3, n3, c3, rfl⟩ := isT_shape hv
  replace hL := (hL.go hb).put (pT_st (.slice A3 n3 c3) (m + 1) (q + 1)) hv
  clear hb hv
  have hS0 := boxN ((hL.keep (l' := [pT (.slice A3 n3 c3) (m + 1) (q + 1), pT (.slice A1 n1 c1) m q, pT (.slice Ah nh ch) 128 hN, pT (.slice Al nl cl) 128 lN, pBlk w.heap.size #[.bool false, .slice Al nl cl, .int .i64 lT, .int .i64 0, .bool false, .slice Ah nh ch, .int .i64 hT, .int .i64 0, .bool ev] 159]) (by simp)).go (Below.refl _ _).drew)
  by_cases hf : 0 < fr
  · go_wp2_with fail
    go_region_held3 (fun w' => LiveP w w' [pT (.slice A3 n3 c3) (m + 1) (q + 1), pT (.slice A1 n1 c1) m q, pT (.slice Ah nh ch) 128 hN, pT (.slice Al nl cl) 128 lN, pBlk w.heap.size #[.bool false, .slice Al nl cl, .int .i64 lT, .int .i64 0, .bool false, .slice Ah nh ch, .int .i64 hT, .int .i64 0, .bool ev] 159] ∧ w.heap.size < (w').heap.size ∧ (w').cell? ⟨w.heap.size, 0, none⟩ = some (.bool false) ∧ (w').cell? ⟨w.heap.size, 1, none⟩ = some (.slice Al nl cl) ∧ (w').cell? ⟨w.heap.size, 2, none⟩ = some (.int .i64 lT) ∧ (w').cell? ⟨w.heap.size, 3, none⟩ = some (.int .i64 0) ∧ (w').cell? ⟨w.heap.size, 4, none⟩ = some (.bool false) ∧ (w').cell? ⟨w.heap.size, 5, none⟩ = some (.slice Ah nh ch) ∧ (w').cell? ⟨w.heap.size, 6, none⟩ = some (.int .i64 hT) ∧ (w').cell? ⟨w.heap.size, 7, none⟩ = some (.int .i64 0) ∧ (w').cell? ⟨w.heap.size, 8, none⟩ = some (.bool ev)) (first | exact hS0 | with_reducible assumption | exact keepN (by with_reducible assumption) (by with_reducible assumption))
      (first
        | (go_at_call 132; with_reducible refine (tenN1 (by with_reducible assumption) hmm hq.out hk.out).mono ?_; rintro e w4 ⟨A4, n4, c4, rfl, hv4, hb4⟩)
        | (go_at_call 132; with_reducible refine (tenN3 (by with_reducible assumption) hmm hq.out hk.out).mono ?_; rintro e w5 ⟨A5, n5, c5, rfl, hv5, hb5⟩)
        | (go_at_call 131; with_reducible refine (hasN (by with_reducible assumption) (hv4.below (by with_reducible assumption)) h1.out h2.out hk.out ho1.out).mono ?_; rintro e w6 ⟨rfl, hb6⟩)
        | (go_at_call 131; with_reducible refine (hasN (by with_reducible assumption) hv4 h1.out h2.out hk.out ho1.out).mono ?_; rintro e w6 ⟨rfl, hb6⟩)
        | (go_at_call 131; with_reducible refine (hasN (by with_reducible assumption) (hv5.below (by with_reducible assumption)) h1.out h2.out hk.out ho2.out).mono ?_; rintro e w7 ⟨rfl, hb7⟩)
        | (go_at_call 131; with_reducible refine (hasN (by with_reducible assumption) hv5 h1.out h2.out hk.out ho2.out).mono ?_; rintro e w7 ⟨rfl, hb7⟩))
    have hq7 : LiveP w w7 [pT (.slice A3 n3 c3) (m + 1) (q + 1), pT (.slice A1 n1 c1) m q, pT (.slice Ah nh ch) 128 hN, pT (.slice Al nl cl) 128 lN, pBlk w.heap.size #[.bool false, .slice Al nl cl, .int .i64 lT, .int .i64 0, .bool false, .slice Ah nh ch, .int .i64 hT, .int .i64 0, .bool ev] 159] ∧ w.heap.size < (w7).heap.size ∧ (w7).cell? ⟨w.heap.size, 0, none⟩ = some (.bool false) ∧ (w7).cell? ⟨w.heap.size, 1, none⟩ = some (.slice Al nl cl) ∧ (w7).cell? ⟨w.heap.size, 2, none⟩ = some (.int .i64 lT) ∧ (w7).cell? ⟨w.heap.size, 3, none⟩ = some (.int .i64 0) ∧ (w7).cell? ⟨w.heap.size, 4, none⟩ = some (.bool false) ∧ (w7).cell? ⟨w.heap.size, 5, none⟩ = some (.slice Ah nh ch) ∧ (w7).cell? ⟨w.heap.size, 6, none⟩ = some (.int .i64 hT) ∧ (w7).cell? ⟨w.heap.size, 7, none⟩ = some (.int .i64 0) ∧ (w7).cell? ⟨w.heap.size, 8, none⟩ = some (.bool ev) := by with_reducible assumption
    have hL7 := hq7.1
    clear hq7 hS0 hL
    cases o1 <;> cases o2
    · have hR' := hR.out
      rw [if_neg (by simp), if_neg (by simp), if_neg (by simp)] at hR'
      subst hR'
      go_wp2
      go_ret2
      exact ⟨A1, n1, c1, (by first | rfl | trivial), NearOk.none, hL7.below⟩
    · have hR' := hR.out
      rw [if_neg (by simp), if_pos ⟨hf, rfl⟩] at hR'
      subst hR'
      go_wp2
      go_ret2
      exact ⟨A3, n3, c3, (by first | rfl | trivial), NearOk.some (hL7.get (P := pT (.slice A3 n3 c3) (m + 1) (q + 1)) (by repeat (first | exact List.mem_cons_self | apply List.mem_cons_of_mem))), hL7.below⟩
    · have hR' := hR.out
      rw [if_neg (by simp), if_neg (by simp), if_pos rfl] at hR'
      subst hR'
      go_wp2
      go_ret2
      exact ⟨A1, n1, c1, (by first | rfl | trivial), NearOk.some (isT_more (hL7.get (P := pT (.slice A1 n1 c1) m q) (by repeat (first | exact List.mem_cons_self | apply List.mem_cons_of_mem))) (Nat.le_succ m)), hL7.below⟩
    · have hR' := hR.out
      rw [if_pos ⟨rfl, hf, rfl⟩] at hR'
      by_cases h2' : 2 < fr
      · rw [if_pos (.inl h2')] at hR'
        subst hR'
        go_wp2
        go_ret2
        exact ⟨A3, n3, c3, (by first | rfl | trivial), NearOk.some (hL7.get (P := pT (.slice A3 n3 c3) (m + 1) (q + 1)) (by repeat (first | exact List.mem_cons_self | apply List.mem_cons_of_mem))), hL7.below⟩
      · by_cases h22 : fr = 2
        · subst h22
          obtain ⟨eb, heb⟩ : ∃ eb, (q % 2 == 0) = eb := ⟨_, rfl⟩
          have hev := even_t (IsT.isN (hL7.get (P := pT (.slice A1 n1 c1) m q) (by repeat (first | exact List.mem_cons_self | apply List.mem_cons_of_mem))))
          rw [heb] at hev
          replace hev := Lib.hid hev
          go_wp2_with fail
          refine hev.out.mono ?_
          rintro e w8 ⟨rfl, hb⟩
          replace hL7 := hL7.go hb
          clear hb hev
          cases eb with
          | true =>
            rw [if_neg (by simp at heb ⊢; omega)] at hR'
            subst hR'
            go_wp2
            go_ret2
            exact ⟨A1, n1, c1, (by first | rfl | trivial), NearOk.some (isT_more (hL7.get (P := pT (.slice A1 n1 c1) m q) (by repeat (first | exact List.mem_cons_self | apply List.mem_cons_of_mem))) (Nat.le_succ m)), hL7.below⟩
          | false =>
            rw [if_pos (.inr ⟨by first | rfl | trivial, by simp at heb; omega⟩)] at hR'
            subst hR'
            go_wp2
            go_ret2
            exact ⟨A3, n3, c3, (by first | rfl | trivial), NearOk.some (hL7.get (P := pT (.slice A3 n3 c3) (m + 1) (q + 1)) (by repeat (first | exact List.mem_cons_self | apply List.mem_cons_of_mem))), hL7.below⟩
        · rw [if_neg (by omega)] at hR'
          subst hR'
          have h22' : (fr == 2) = false := by simp [h22]
          go_wp2
          go_ret2
          exact ⟨A1, n1, c1, (by first | rfl | trivial), NearOk.some (isT_more (hL7.get (P := pT (.slice A1 n1 c1) m q) (by repeat (first | exact List.mem_cons_self | apply List.mem_cons_of_mem))) (Nat.le_succ m)), hL7.below⟩
  · obtain rfl : fr = 0 := by omega
    clear hf hf0
    have hS0' := hS0
    obtain ⟨-, hlt0, d0, d1, d2, d3, d4, d5, d6, d7, d8⟩ := hS0'
    have htn := fun (W : World) (h : LiveP w W [pT (.slice A3 n3 c3) (m + 1) (q + 1), pT (.slice A1 n1 c1) m q, pT (.slice Ah nh ch) 128 hN, pT (.slice Al nl cl) 128 lN, pBlk w.heap.size #[.bool false, .slice Al nl cl, .int .i64 lT, .int .i64 0, .bool false, .slice Ah nh ch, .int .i64 hT, .int .i64 0, .bool ev] 159] ∧ w.heap.size < (W).heap.size ∧ (W).cell? ⟨w.heap.size, 0, none⟩ = some (.bool false) ∧ (W).cell? ⟨w.heap.size, 1, none⟩ = some (.slice Al nl cl) ∧ (W).cell? ⟨w.heap.size, 2, none⟩ = some (.int .i64 lT) ∧ (W).cell? ⟨w.heap.size, 3, none⟩ = some (.int .i64 0) ∧ (W).cell? ⟨w.heap.size, 4, none⟩ = some (.bool false) ∧ (W).cell? ⟨w.heap.size, 5, none⟩ = some (.slice Ah nh ch) ∧ (W).cell? ⟨w.heap.size, 6, none⟩ = some (.int .i64 hT) ∧ (W).cell? ⟨w.heap.size, 7, none⟩ = some (.int .i64 0) ∧ (W).cell? ⟨w.heap.size, 8, none⟩ = some (.bool ev)) => tenN1 (k := k) h hmm hq.out hk.out
    have hhs := fun (W : World) A n c (h : LiveP w W [pT (.slice A3 n3 c3) (m + 1) (q + 1), pT (.slice A1 n1 c1) m q, pT (.slice Ah nh ch) 128 hN, pT (.slice Al nl cl) 128 lN, pBlk w.heap.size #[.bool false, .slice Al nl cl, .int .i64 lT, .int .i64 0, .bool false, .slice Ah nh ch, .int .i64 hT, .int .i64 0, .bool ev] 159] ∧ w.heap.size < (W).heap.size ∧ (W).cell? ⟨w.heap.size, 0, none⟩ = some (.bool false) ∧ (W).cell? ⟨w.heap.size, 1, none⟩ = some (.slice Al nl cl) ∧ (W).cell? ⟨w.heap.size, 2, none⟩ = some (.int .i64 lT) ∧ (W).cell? ⟨w.heap.size, 3, none⟩ = some (.int .i64 0) ∧ (W).cell? ⟨w.heap.size, 4, none⟩ = some (.bool false) ∧ (W).cell? ⟨w.heap.size, 5, none⟩ = some (.slice Ah nh ch) ∧ (W).cell? ⟨w.heap.size, 6, none⟩ = some (.int .i64 hT) ∧ (W).cell? ⟨w.heap.size, 7, none⟩ = some (.int .i64 0) ∧ (W).cell? ⟨w.heap.size, 8, none⟩ = some (.bool ev)) (hv : IsT W (.slice A n c) 128 q) => hasN (k := k) h hv h1.out h2.out hk.out ho1.out
    replace htn := Lib.hid htn
    replace hhs := Lib.hid hhs
    go_wp2_with fail
    first | (go_region_law (first
      | (go_simp; go_at_call 132; refine Calls.mono (htn.out _ hS0) ?_; rintro e w4 ⟨A4, n4, c4, rfl, hv4, hb4⟩; (have hS4 := keepN hS0 hb4); (obtain ⟨-, hlt4, g0, g1, g2, g3, g4, g5, g6, g7, g8⟩ := id hS4))
      | (go_simp; go_at_call 131; refine Calls.mono (hhs.out _ _ _ _ hS4 hv4) ?_; rintro e w7 ⟨rfl, hb7⟩))) | fail
    all_goals
      have hL7 := hS4.1.go hb7
      clear hS0 hL hS4
      have hR' := hR.out
      rw [if_neg (fun h => absurd h.2.1 (by decide)), if_neg (fun h => absurd h.1 (by decide))] at hR'
      cases o1
      · rw [if_neg (by simp)] at hR'
        subst hR'
        go_wp2
        go_ret2
        exact ⟨A1, n1, c1, (by first | rfl | trivial), NearOk.none, hL7.below⟩
      · rw [if_pos rfl] at hR'
        subst hR'
        go_wp2
        go_ret2
        exact ⟨A1, n1, c1, (by first | rfl | trivial), NearOk.some (isT_more (hL7.get (P := pT (.slice A1 n1 c1) m q) (by repeat (first | exact List.mem_cons_self | apply List.mem_cons_of_mem))) (Nat.le_succ m)), hL7.below⟩
end Go.Proofs.YtdlkfnkmdlcekaaGreatDoor
namespace Go.Proofs.YtdlkfnkmdlcekaaGreatDoor
open Go.RowKit Go.Cal
theorem and_pow (p : Int) (n : Nat) (hn : n ≤ 63) (h0 : 0 ≤ p) (h1 : p < 2 ^ (n + 1)) : bits BinOp.and IntKind.u64 p (2 ^ n) = if p < 2 ^ n then 0 else 2 ^ n := by
  obtain ⟨k, rfl⟩ := Int.eq_ofNat_of_zero_le h0
  have e1 : (2 : Int) ^ n = ((2 ^ n : Nat) : Int) := by push_cast; rfl
  have e2 : (2 : Int) ^ (n + 1) = ((2 ^ (n + 1) : Nat) : Int) := by push_cast; rfl
  rw [e2] at h1
  have h3 : 2 ^ n ≤ 2 ^ 63 := Nat.pow_le_pow_right (by decide) hn
  have h4 : 2 ^ (n + 1) ≤ 2 ^ 64 := Nat.pow_le_pow_right (by decide) (by omega)
  have h2 : k < 2 ^ (n + 1) := by exact_mod_cast h1
  have hb : k &&& 2 ^ n = if k < 2 ^ n then 0 else 2 ^ n := by
    apply Nat.eq_of_testBit_eq
    intro i
    rw [Nat.testBit_and, Nat.testBit_two_pow]
    by_cases hi : n = i
    · subst hi
      by_cases hk : k < 2 ^ n
      · rw [if_pos hk, Nat.testBit_lt_two_pow hk]; simp
      · rw [if_neg hk, Nat.testBit_two_pow]
        have : k.testBit n = true := by
          rw [Nat.testBit_eq_decide_div_mod_eq]
          have : k / 2 ^ n = 1 := by
            rw [Nat.pow_succ] at h2
            exact Nat.div_eq_of_lt_le (by omega) (by omega)
          rw [this]; rfl
        rw [this]; simp
    · split
      · simp [hi]
      · rw [Nat.testBit_two_pow]; simp [hi]
  rw [e1, bits_and_u64_nat _ _ (by omega) (by omega), hb]
  by_cases hk : k < 2 ^ n
  · rw [if_pos hk, if_pos (by exact_mod_cast hk)]; rfl
  · rw [if_neg hk, if_neg (fun h => hk (by exact_mod_cast h))]
set_option maxRecDepth 100000 in
set_option maxHeartbeats 1000000 in
theorem vparts_any (id p : Int) (h1 : 1 ≤ id) (h2 : id < 15) (hp0 : 0 ≤ p) (hp1 : p < 2 ^ (fW id).toNat) (w : World) :
    Calls Tryz.prog 38 #[.agg #[.int .i64 (fK id), .int .i64 (fW id), .int .i64 (fM id), .int .i64 (fB id), .int .u64 (fT id), .int .u64 (fI id), .int .u64 (fN id), .func (.func (numI (fK id))) #[] #[]], .int .u64 p] w fun e w' => e = .returned (.tuple #[.bool (partN id p), .int .u64 (partK id p)]) ∧ Below w.heap.size w w' := by
  obtain ⟨w1, w2, -⟩ := fo_wide h1 h2
  have hsg := Lib.hid fun w => fo_sgn id h1 h2 w
  have hpw : (2 : Int) ^ ((fW id).toNat - 1 + 1) = 2 ^ (fW id).toNat := by rw [show (fW id).toNat - 1 + 1 = (fW id).toNat by omega]
  have hand := and_pow p ((fW id).toNat - 1) (by omega) hp0 (by rw [hpw]; exact hp1)
  by_cases h4 : fK id = 4
  · have hS : sgV id = 0 := by unfold sgV; rw [if_pos h4]
    have hN : partN id p = false := by unfold partN; simp [h4]
    have hK : partK id p = p := by unfold partK; rw [if_pos hN]
    rw [hN, hK]
    rw [hS] at hsg
    have h0 : bits BinOp.and IntKind.u64 p 0 = 0 := by
      have : p < 18446744073709551616 := by
        have : (2 : Int) ^ (fW id).toNat ≤ 2 ^ 64 := by
          have h5 : 2 ^ (fW id).toNat ≤ 2 ^ 64 := Nat.pow_le_pow_right (by decide) w1
          exact_mod_cast h5
        omega
      obtain ⟨k, rfl⟩ := Int.eq_ofNat_of_zero_le hp0
      have := bits_and_u64_nat k 0 (by omega) (by decide)
      simpa using this
    clear hand hpw hN hK hS hp1
    replace h4 := Lib.hid h4
    go_enter Tryz.func38, Tryz.ntmps38
    go_wp2_with fail
    refine (hsg.out _).mono ?_
    rintro e u1 ⟨rfl, hb⟩
    go_wp2
    go_ret2
    exact ⟨rfl, ((Below.refl _ _).alloc (Nat.le_refl _) _).trans (hb.mono (by simp))⟩
  · have hS : sgV id = 2 ^ ((fW id).toNat - 1) := by unfold sgV; rw [if_neg h4]
    rw [hS] at hsg
    by_cases hlt : p < 2 ^ ((fW id).toNat - 1)
    · rw [if_pos hlt] at hand
      have hN : partN id p = false := by unfold partN; simp; intro; omega
      have hK : partK id p = p := by unfold partK; rw [if_pos hN]
      rw [hN, hK]
      clear hpw hN hK hS hp1 hlt
      replace h4 := Lib.hid h4
      go_enter Tryz.func38, Tryz.ntmps38
      go_wp2_with fail
      refine (hsg.out _).mono ?_
      rintro e u1 ⟨rfl, hb⟩
      go_wp2
      go_ret2
      exact ⟨rfl, ((Below.refl _ _).alloc (Nat.le_refl _) _).trans (hb.mono (by simp))⟩
    · rw [if_neg hlt] at hand
      have hN : partN id p = true := by unfold partN; simp [h4]; omega
      have hpos := pow_pos ((fW id).toNat - 1)
      have hne : ((2 : Int) ^ ((fW id).toNat - 1) == 0) = false := by simp; omega
      by_cases h2k : fK id = 2
      · have hK : partK id p = p - 2 ^ ((fW id).toNat - 1) := by unfold partK; rw [if_neg (by rw [hN]; decide), if_pos h2k]
        have hhm := half_mod p ((fW id).toNat - 1) hp0 (by rw [hpw]; exact hp1) (by omega)
        have hmod : p % 2 ^ ((fW id).toNat - 1) = p - 2 ^ ((fW id).toNat - 1) := by
          rw [← Int.sub_emod_right]
          exact Int.emod_eq_of_lt (by omega) (by rw [← hpw, Int.pow_succ] at hp1; omega)
        rw [hmod] at hhm
        rw [hN, hK]
        have k2 : (fK id == 2) = true := by simp [h2k]
        replace hhm := Lib.hid hhm
        clear hpw hN hK hS hp1 hlt hmod hpos
        replace h4 := Lib.hid h4
        replace h2k := Lib.hid h2k
        go_enter Tryz.func38, Tryz.ntmps38
        go_wp2_with fail
        refine (hsg.out _).mono ?_
        rintro e u1 ⟨rfl, hb⟩
        have hB : Below w.heap.size w u1 := ((Below.refl _ _).alloc (Nat.le_refl _) _).trans (hb.mono (by simp))
        have hp := pBlk_st _ _ _ _ _ (pBlk_made w #[.int .i64 (fK id), .int .i64 (fW id), .int .i64 (fM id), .int .i64 (fB id), .int .u64 (fT id), .int .u64 (fI id), .int .u64 (fN id), .func (.func (numI (fK id))) #[] #[]] 78) hb
        obtain ⟨r0, r1, r2, r3, r4, r5, r6, r7⟩ := cells8 hp
        go_wp2_with fail
        refine (hsg.out _).mono ?_
        rintro e u2 ⟨rfl, hb2⟩
        go_wp2
        rw [hhm.out]
        go_ret2
        exact ⟨rfl, hB.trans (hb2.mono hB.size)⟩
      · have hK : partK id p = (-p) % 2 ^ (fW id).toNat := by unfold partK; rw [if_neg (by rw [hN]; decide), if_neg h2k]
        have hpa := Lib.hid (pat_and p (fW id).toNat w1)
        have hmk := Lib.hid (fun w => fo_mask (fK id) (fW id) (fM id) (fB id) (fT id) (fI id) (fN id) w (by omega) (by omega))
        rw [hN, hK]
        have k2 : (fK id == 2) = false := by simp [h2k]
        clear hpw hN hK hS hp1 hlt hpos
        replace h4 := Lib.hid h4
        replace h2k := Lib.hid h2k
        go_enter Tryz.func38, Tryz.ntmps38
        go_wp2_with fail
        refine (hsg.out _).mono ?_
        rintro e u1 ⟨rfl, hb⟩
        have hB : Below w.heap.size w u1 := ((Below.refl _ _).alloc (Nat.le_refl _) _).trans (hb.mono (by simp))
        have hp := pBlk_st _ _ _ _ _ (pBlk_made w #[.int .i64 (fK id), .int .i64 (fW id), .int .i64 (fM id), .int .i64 (fB id), .int .u64 (fT id), .int .u64 (fI id), .int .u64 (fN id), .func (.func (numI (fK id))) #[] #[]] 78) hb
        obtain ⟨r0, r1, r2, r3, r4, r5, r6, r7⟩ := cells8 hp
        go_wp2_with fail
        refine (hmk.out _).mono ?_
        rintro e u2 ⟨rfl, hb2⟩
        go_wp2
        rw [hpa.out]
        go_ret2
        exact ⟨rfl, hB.trans (hb2.mono hB.size)⟩
end Go.Proofs.YtdlkfnkmdlcekaaGreatDoor
namespace Go.Proofs.YtdlkfnkmdlcekaaGreatDoor
open Go.RowKit Go.Cal
theorem class_cases (id p : Int) : 
    ((fK id == 2) = true ∧ (fK id != 2) = false ∧ (partK id p == fI id) = true ∧ (fI id != 0) = true ∧ classV id p = 3) ∨
    ((fK id == 2) = true ∧ (fK id != 2) = false ∧ (fK id != 4) = true ∧ ((partK id p == fI id) = false ∨ (partK id p == fI id) = true ∧ (fI id != 0) = false) ∧
      ((fT id < partK id p ∧ classV id p = 4) ∨ (¬ fT id < partK id p ∧ (partK id p == 0) = true ∧ classV id p = 1) ∨ (¬ fT id < partK id p ∧ (partK id p == 0) = false ∧ classV id p = 2))) ∨
    ((fK id == 2) = false ∧ (fK id != 2) = true ∧
      (((fN id != 0) = true ∧ (p == fN id) = true ∧ classV id p = 4) ∨
       (((fN id != 0) = false ∨ (fN id != 0) = true ∧ (p == fN id) = false) ∧
         (((partK id p == 0) = true ∧ (fK id != 4) = true ∧ classV id p = 1) ∨ ((partK id p == 0) = true ∧ (fK id != 4) = false ∧ classV id p = 2) ∨ ((partK id p == 0) = false ∧ classV id p = 2))))) := by
  unfold classV
  generalize partK id p = key
  by_cases hk : fK id = 2
  · by_cases hi : key = fI id ∧ fI id ≠ 0
    · left; rw [if_pos ⟨hk, hi⟩]; simp [hk, hi.1, hi.2]
    · right; left
      rw [if_neg (fun h => hi ⟨h.2.1, h.2.2⟩)]
      refine ⟨by simp [hk], by simp [hk], by simp [hk], ?_, ?_⟩
      · by_cases hx : key = fI id
        · right; refine ⟨by simp [hx], ?_⟩; simp; exact Classical.byContradiction fun h => hi ⟨hx, h⟩
        · left; simp [hx]
      · by_cases ht : fT id < key
        · left; rw [if_pos (.inl ⟨hk, ht⟩)]; exact ⟨ht, rfl⟩
        · right
          rw [if_neg (fun h => by rcases h with h | h; exact ht h.2; exact h.1 hk)]
          by_cases h0 : key = 0
          · left; rw [if_pos ⟨h0, by omega⟩]; exact ⟨ht, by simp [h0], rfl⟩
          · right; rw [if_neg (fun h => h0 h.1)]; exact ⟨ht, by simp [h0], rfl⟩
  · right; right
    refine ⟨by simp [hk], by simp [hk], ?_⟩
    rw [if_neg (fun h => hk h.1)]
    by_cases hn : fN id ≠ 0 ∧ p = fN id
    · left; rw [if_pos (.inr ⟨hk, hn⟩)]; exact ⟨by simp [hn.1], by simp [hn.2], rfl⟩
    · right
      rw [if_neg (fun h => by rcases h with h | h; exact hk h.1; exact hn h.2)]
      refine ⟨?_, ?_⟩
      · by_cases h0 : fN id = 0
        · left; simp [h0]
        · right; refine ⟨by simp [h0], ?_⟩; simp; exact fun h => hn ⟨h0, h⟩
      · by_cases h0 : key = 0
        · by_cases h4 : fK id = 4
          · right; left; rw [if_neg (fun h => h.2 h4)]; exact ⟨by simp [h0], by simp [h4], rfl⟩
          · left; rw [if_pos ⟨h0, h4⟩]; exact ⟨by simp [h0], by simp [h4], rfl⟩
        · right; right; rw [if_neg (fun h => h0 h.1)]; exact ⟨by simp [h0], rfl⟩
set_option maxRecDepth 100000 in
set_option maxHeartbeats 1000000 in
theorem vclass_any (id p : Int) (w : World) :
    Calls Tryz.prog 39 #[.agg #[.int .i64 (fK id), .int .i64 (fW id), .int .i64 (fM id), .int .i64 (fB id), .int .u64 (fT id), .int .u64 (fI id), .int .u64 (fN id), .func (.func (numI (fK id))) #[] #[]], .int .u64 p, .int .u64 (partK id p)] w fun e w' => e = .returned (.int .i64 (classV id p)) ∧ Below w.heap.size w w' := by
  have hc := class_cases id p
  generalize partK id p = key at hc ⊢
  rcases hc with ⟨k1, k2, k3, k4, hV⟩ | ⟨k1, k2, k3, k4, hV⟩ | ⟨k1, k2, hV⟩
  · rw [hV]
    go_enter Tryz.func39, Tryz.ntmps39
    go_wp2
    go_ret
    exact ⟨rfl, (Below.refl _ _).alloc (Nat.le_refl _) _⟩
  · rcases k4 with k4 | ⟨k4, k5⟩
    all_goals
      rcases hV with ⟨k6, hV⟩ | ⟨k6, k7, hV⟩ | ⟨k6, k7, hV⟩
      all_goals
        rw [hV]
        go_enter Tryz.func39, Tryz.ntmps39
        go_wp2
        go_ret
        exact ⟨rfl, (Below.refl _ _).alloc (Nat.le_refl _) _⟩
  · rcases hV with ⟨k3, k4, hV⟩ | ⟨k3 | ⟨k3, k4⟩, ⟨k5, k6, hV⟩ | ⟨k5, k6, hV⟩ | ⟨k5, hV⟩⟩
    all_goals
      rw [hV]
      go_enter Tryz.func39, Tryz.ntmps39
      go_wp2
      go_ret
      exact ⟨rfl, (Below.refl _ _).alloc (Nat.le_refl _) _⟩
/-- What Decode tells. -/
def decN (id p : Int) : Bool := if classV id p = 4 then false else partN id p
def decM (id p : Int) : Nat := if classV id p = 2 then (magV id 0 (partK id p).toNat).1 else 0
def decE (id p : Int) : Int := if classV id p = 2 then (magV id 0 (partK id p).toNat).2 else 0
theorem partK_nonneg {id p : Int} (hp0 : 0 ≤ p) : 0 ≤ partK id p := by
  unfold partK partN
  split
  · exact hp0
  · rename_i h
    split
    · simp at h; omega
    · exact Int.emod_nonneg _ (by have := pow_pos (fW id).toNat; omega)
/-- A number's magnitude is one. -/
theorem class_two {id p : Int} (h1 : 1 ≤ id) (h2 : id < 15) (hp0 : 0 ≤ p) (hp1 : p < 2 ^ (fW id).toNat) (hc : classV id p = 2) : partK id p ≤ fitM id ∧ partK id p ≤ mostV id (partN id p) ∧ (fK id ≠ 4 → partK id p ≠ 0) ∧ (partN id p = true → fK id ≠ 4) := by
  rcases id_cases h1 h2 with rfl | rfl | rfl | rfl | rfl | rfl | rfl | rfl | rfl | rfl | rfl | rfl | rfl | rfl <;>
    simp [classV, partK, partN, fitM, mostV, fK, fW, fT, fN, fI] at hp1 hc ⊢ <;> (repeat' split at hc) <;> simp_all <;> omega
end Go.Proofs.YtdlkfnkmdlcekaaGreatDoor
namespace Go.Proofs.YtdlkfnkmdlcekaaGreatDoor
open Go.RowKit Go.Cal
theorem value_size : (Tryz.prog.info? 25).map (·.size) = some 4 := by kernel_rfl
set_option maxRecDepth 100000 in
set_option maxHeartbeats 1000000 in
theorem vdec_no (id p : Int) (hp0 : 0 ≤ p) (hp1 : p < 18446744073709551616) (hf : fitsV id p ≠ 0) (w : World) (hW : VaW w) :
    Calls Tryz.prog 14 #[.int .i64 id, .int .u64 p] w fun e w' => e = .returned (.tuple #[.agg #[.int .i64 0, .bool false, .int .u64 0, .int .i64 0], .int .i64 (fitsV id p)]) ∧ Below w.heap.size w w' := by
  have hfn := Lib.hid fun w (hW : VaW w) => fo_fits id p w hW.frm hp0 hp1
  have hff : (fitsV id p != 0) = true := by simp [hf]
  generalize fitsV id p = E at hfn hff ⊢
  clear hf
  go_enter Tryz.func14, Tryz.ntmps14
  go_wp2_with fail
  refine (hfn.out _ (hW.below ((Below.refl _ _).alloc (Nat.le_refl _) _))).mono ?_
  rintro e u1 ⟨rfl, hb⟩
  have hB : Below w.heap.size w u1 := ((Below.refl _ _).alloc (Nat.le_refl _) _).trans (hb.mono (by simp))
  have hp := pBlk_st _ _ _ _ _ (pBlk_made w #[.int .i64 0, .bool false, .int .u64 0, .int .i64 0] 25) hb
  obtain ⟨q0, q1, q2, q3⟩ := cells4 hp
  go_wp2_with ((with_reducible show wpList _ _ _ (Oper.mk _ (Op.store 25 _ _) _ _ _ _ :: _) _ _); refine wpList_store_whole _ rfl 25 _ _ rfl w.heap.size #[.int .i64 0, .bool false, .int .u64 0, .int .i64 0] #[.int .i64 0, .bool false, .int .u64 0, .int .i64 0] 25 rfl rfl hp value_size rfl (by simp [Value.oneCell']) ?_; intro u2 hp2 hb2 hz2; obtain ⟨r0, r1, r2, r3⟩ := cells4 hp2)
  exact bodyPost_ret (v := .tuple #[.agg #[.int .i64 0, .bool false, .int .u64 0, .int .i64 0], .int .i64 E]) (by simp [results, Tryz.results14, go_sem, r0, r1, r2, r3]) rfl ⟨rfl, hB.trans hb2⟩
set_option maxRecDepth 100000 in
set_option maxHeartbeats 1000000 in
theorem vdec_yes (id p : Int) (h1 : 1 ≤ id) (h2 : id < 15) (hp0 : 0 ≤ p) (hp1 : p < 2 ^ (fW id).toNat) (w : World) (hW : VaW w) :
    Calls Tryz.prog 14 #[.int .i64 id, .int .u64 p] w fun e w' => e = .returned (.tuple #[.agg #[.int .i64 (classV id p), .bool (decN id p), .int .u64 (decM id p : Nat), .int .i64 (decE id p)], .int .i64 0]) ∧ Below w.heap.size w w' := by
  obtain ⟨w1, w2, -⟩ := fo_wide h1 h2
  have hp64 : p < 18446744073709551616 := by
    have : (2 : Int) ^ (fW id).toNat ≤ 2 ^ 64 := by
      have h5 : 2 ^ (fW id).toNat ≤ 2 ^ 64 := Nat.pow_le_pow_right (by decide) w1
      exact_mod_cast h5
    omega
  have hf0 : fitsV id p = 0 := by unfold fitsV; rw [if_neg (by omega), if_pos hp1]
  have hfn := fun w (hW : VaW w) => fo_fits id p w hW.frm hp0 hp64
  rw [hf0] at hfn
  replace hfn := Lib.hid hfn
  have hof := Lib.hid fun w hW => vof_yes id h1 h2 w hW
  have hpt := Lib.hid fun w => vparts_any id p h1 h2 hp0 hp1 w
  have hcl := Lib.hid fun w => vclass_any id p w
  have hc : classV id p = 1 ∨ classV id p = 2 ∨ classV id p = 3 ∨ classV id p = 4 := by
    unfold classV; repeat' split
    all_goals simp
  rcases hc with hc | hc | hc | hc
  · have hn : decN id p = partN id p := by unfold decN; rw [if_neg (by rw [hc]; decide)]
    have hm : decM id p = 0 := by unfold decM; rw [if_neg (by rw [hc]; decide)]
    have he : decE id p = 0 := by unfold decE; rw [if_neg (by rw [hc]; decide)]
    rw [hn, hm, he, hc]
    rw [hc] at hcl
    clear hn hm he hc hf0 hp1 hp64
    generalize partN id p = ng at hpt ⊢
    generalize partK id p = key at hpt hcl
    all_goals
      go_enter Tryz.func14, Tryz.ntmps14
      go_wp2_with fail
      refine (hfn.out _ (hW.below ((Below.refl _ _).alloc (Nat.le_refl _) _))).mono ?_
      rintro e u1 ⟨rfl, hb⟩
      have hB : Below w.heap.size w u1 := ((Below.refl _ _).alloc (Nat.le_refl _) _).trans (hb.mono (by simp))
      have hp := pBlk_st _ _ _ _ _ (pBlk_made w #[.int .i64 0, .bool false, .int .u64 0, .int .i64 0] 25) hb
      go_wp2_with fail
      refine (hof.out _ (hW.below hB)).mono ?_
      rintro e u2 ⟨rfl, hb2⟩
      have hpA := pBlk_st _ _ _ _ _ hp hb2
      have hB2 := hB.trans (hb2.mono hB.size)
      go_wp2_with (first | ((with_reducible show wpList _ _ _ (Oper.mk _ (Op.store 78 _ _) _ _ _ _ :: _) _ _); refine wpList_store_whole _ rfl 78 _ _ rfl (u2).heap.size _ #[.int .i64 0, .int .i64 0, .int .i64 0, .int .i64 0, .int .u64 0, .int .u64 0, .int .u64 0, .nilFunc] 78 rfl rfl (pBlk_made u2 #[.int .i64 0, .int .i64 0, .int .i64 0, .int .i64 0, .int .u64 0, .int .u64 0, .int .u64 0, .nilFunc] 78) shape_size rfl (by simp [Value.oneCell']) ?_; intro w2 hp2 hb3 hz2; obtain ⟨r0, r1, r2, r3, r4, r5, r6, r7⟩ := cells8 hp2))
      have hB3 := (hB2.alloc hB2.size (.cells #[.int .i64 0, .int .i64 0, .int .i64 0, .int .i64 0, .int .u64 0, .int .u64 0, .int .u64 0, .nilFunc] 78)).trans (hb3.mono hB2.size)
      have hpB := pBlk_keep (pBlk_st _ _ _ _ _ hpA ((Below.refl _ _).alloc (Nat.le_refl _) (.cells #[.int .i64 0, .int .i64 0, .int .i64 0, .int .i64 0, .int .u64 0, .int .u64 0, .int .u64 0, .nilFunc] 78))) hb3 (by have := hb.size; have := hb2.size; simp at *; omega)
      refine (hpt.out _).mono ?_
      rintro e u3 ⟨rfl, hb4⟩
      have hpC := pBlk_st _ _ _ _ _ hpB hb4
      have hsC := pBlk_st _ _ _ _ _ hp2 hb4
      clear r0 r1 r2 r3 r4 r5 r6 r7
      obtain ⟨r0, r1, r2, r3, r4, r5, r6, r7⟩ := cells8 hsC
      go_wp2_with fail
      refine (hcl.out _).mono ?_
      rintro e u4 ⟨rfl, hb5⟩
      have hpD := pBlk_st _ _ _ _ _ hpC hb5
      have hsD := pBlk_st _ _ _ _ _ hsC hb5
      obtain ⟨p0, p1, p2, p3⟩ := cells4 hpD
      have f0 := hpD.free 0
      have f1 := hpD.free 1
      have hB5 := (hB3.trans (hb4.mono hB3.size)).trans (hb5.mono (Nat.le_trans hB3.size hb4.size))
      clear hpt hcl hof hfn
      clear r0 r1 r2 r3 r4 r5 r6 r7
      have hpE : pBlk w.heap.size #[.int .i64 1, .bool ng, .int .u64 0, .int .i64 0] 25 ((u4.setCell ⟨w.heap.size, 0, none⟩ (.int .i64 1)).setCell ⟨w.heap.size, 1, none⟩ (.bool ng)) := (hpD.setX 0 _).setX 1 _
      obtain ⟨q0, q1, q2, q3⟩ := cells4 hpE
      have hBE : Below w.heap.size w ((u4.setCell ⟨w.heap.size, 0, none⟩ (.int .i64 1)).setCell ⟨w.heap.size, 1, none⟩ (.bool ng)) := (hB5.setCell (p := ⟨w.heap.size, 0, none⟩) (Nat.le_refl _) _).setCell (p := ⟨w.heap.size, 1, none⟩) (Nat.le_refl _) _
      go_wp2_with ((with_reducible show wpList _ _ _ (Oper.mk _ (Op.store 25 _ _) _ _ _ _ :: _) _ _); refine wpList_store_whole _ rfl 25 _ _ rfl w.heap.size #[.int .i64 1, .bool ng, .int .u64 0, .int .i64 0] #[.int .i64 1, .bool ng, .int .u64 0, .int .i64 0] 25 rfl rfl hpE value_size rfl (by simp [Value.oneCell']) ?_; intro u5 hp2 hb2 hz2; obtain ⟨r0, r1, r2, r3⟩ := cells4 hp2)
      exact bodyPost_ret (v := .tuple #[.agg #[.int .i64 1, .bool ng, .int .u64 0, .int .i64 0], .int .i64 0]) (by simp [results, Tryz.results14, go_sem, r0, r1, r2, r3]) rfl ⟨rfl, hBE.trans hb2⟩
  · have hn : decN id p = partN id p := by unfold decN; rw [if_neg (by rw [hc]; decide)]
    have hm : decM id p = (magV id 0 (partK id p).toNat).1 := by unfold decM; rw [if_pos hc]
    have he : decE id p = (magV id 0 (partK id p).toNat).2 := by unfold decE; rw [if_pos hc]
    obtain ⟨x1, x2, x3, x4⟩ := class_two h1 h2 hp0 hp1 hc
    have hkn := partK_nonneg (id := id) hp0
    have hok := mag_own (key := (partK id p).toNat) h1 h2 (by omega) (fun h => by have := x3 (by omega); omega)
    have hnm := fun w hW => num_any id h1 h2 0 (partK id p).toNat 0 (partK id p) rfl (by omega) hok w hW
    rw [hn, hm, he, hc]
    rw [hc] at hcl
    clear hn hm he hc hf0 hp1 hp64 x1 x2 x3 x4 hok hkn
    generalize magV id 0 (partK id p).toNat = mg at hnm ⊢
    obtain ⟨mv, ev⟩ := mg
    generalize partN id p = ng at hpt ⊢
    generalize partK id p = key at hpt hcl hnm
    rcases numI_cases (fK id) with hI | hI | hI | hI
    all_goals
      rw [hI] at hnm hof hpt hcl
      replace hnm := Lib.hid hnm
      go_enter Tryz.func14, Tryz.ntmps14
      go_wp2_with fail
      refine (hfn.out _ (hW.below ((Below.refl _ _).alloc (Nat.le_refl _) _))).mono ?_
      rintro e u1 ⟨rfl, hb⟩
      have hB : Below w.heap.size w u1 := ((Below.refl _ _).alloc (Nat.le_refl _) _).trans (hb.mono (by simp))
      have hp := pBlk_st _ _ _ _ _ (pBlk_made w #[.int .i64 0, .bool false, .int .u64 0, .int .i64 0] 25) hb
      go_wp2_with fail
      refine (hof.out _ (hW.below hB)).mono ?_
      rintro e u2 ⟨rfl, hb2⟩
      have hpA := pBlk_st _ _ _ _ _ hp hb2
      have hB2 := hB.trans (hb2.mono hB.size)
      go_wp2_with (first | ((with_reducible show wpList _ _ _ (Oper.mk _ (Op.store 78 _ _) _ _ _ _ :: _) _ _); refine wpList_store_whole _ rfl 78 _ _ rfl (u2).heap.size _ #[.int .i64 0, .int .i64 0, .int .i64 0, .int .i64 0, .int .u64 0, .int .u64 0, .int .u64 0, .nilFunc] 78 rfl rfl (pBlk_made u2 #[.int .i64 0, .int .i64 0, .int .i64 0, .int .i64 0, .int .u64 0, .int .u64 0, .int .u64 0, .nilFunc] 78) shape_size rfl (by simp [Value.oneCell']) ?_; intro w2 hp2 hb3 hz2; obtain ⟨r0, r1, r2, r3, r4, r5, r6, r7⟩ := cells8 hp2))
      have hB3 := (hB2.alloc hB2.size (.cells #[.int .i64 0, .int .i64 0, .int .i64 0, .int .i64 0, .int .u64 0, .int .u64 0, .int .u64 0, .nilFunc] 78)).trans (hb3.mono hB2.size)
      have hpB := pBlk_keep (pBlk_st _ _ _ _ _ hpA ((Below.refl _ _).alloc (Nat.le_refl _) (.cells #[.int .i64 0, .int .i64 0, .int .i64 0, .int .i64 0, .int .u64 0, .int .u64 0, .int .u64 0, .nilFunc] 78))) hb3 (by have := hb.size; have := hb2.size; simp at *; omega)
      refine (hpt.out _).mono ?_
      rintro e u3 ⟨rfl, hb4⟩
      have hpC := pBlk_st _ _ _ _ _ hpB hb4
      have hsC := pBlk_st _ _ _ _ _ hp2 hb4
      clear r0 r1 r2 r3 r4 r5 r6 r7
      obtain ⟨r0, r1, r2, r3, r4, r5, r6, r7⟩ := cells8 hsC
      go_wp2_with fail
      refine (hcl.out _).mono ?_
      rintro e u4 ⟨rfl, hb5⟩
      have hpD := pBlk_st _ _ _ _ _ hpC hb5
      have hsD := pBlk_st _ _ _ _ _ hsC hb5
      obtain ⟨p0, p1, p2, p3⟩ := cells4 hpD
      have f0 := hpD.free 0
      have f1 := hpD.free 1
      have hB5 := (hB3.trans (hb4.mono hB3.size)).trans (hb5.mono (Nat.le_trans hB3.size hb4.size))
      clear hpt hcl hof hfn
      clear r0 r1 r2 r3 r4 r5 r6 r7
      have hpE : pBlk w.heap.size #[.int .i64 2, .bool ng, .int .u64 0, .int .i64 0] 25 ((u4.setCell ⟨w.heap.size, 0, none⟩ (.int .i64 2)).setCell ⟨w.heap.size, 1, none⟩ (.bool ng)) := (hpD.setX 0 _).setX 1 _
      have hBE : Below w.heap.size w ((u4.setCell ⟨w.heap.size, 0, none⟩ (.int .i64 2)).setCell ⟨w.heap.size, 1, none⟩ (.bool ng)) := (hB5.setCell (p := ⟨w.heap.size, 0, none⟩) (Nat.le_refl _) _).setCell (p := ⟨w.heap.size, 1, none⟩) (Nat.le_refl _) _
      have hne : u2.heap.size ≠ w.heap.size := by have := hb.size; have := hb2.size; simp at *; omega
      have hnb : ∀ i o : Nat, (⟨w.heap.size, i, none⟩ : Addr) ≠ ⟨u2.heap.size, o, none⟩ := fun i o e => hne (by injection e with e; exact e.symm)
      have r : ∀ o : Nat, ((u4.setCell ⟨w.heap.size, 0, none⟩ (.int .i64 2)).setCell ⟨w.heap.size, 1, none⟩ (.bool ng)).cell? ⟨u2.heap.size, o, none⟩ = u4.cell? ⟨u2.heap.size, o, none⟩ := fun o => by
        rw [World.cell?_setCell_other _ _ _ _ (hnb 1 o), World.cell?_setCell_other _ _ _ _ (hnb 0 o)]
      obtain ⟨s0, s1, s2, s3, s4, s5, s6, s7⟩ := cells8 hsD
      have t0 := (r 0).trans s0
      have t1 := (r 1).trans s1
      have t2 := (r 2).trans s2
      have t3 := (r 3).trans s3
      have t4 := (r 4).trans s4
      have t5 := (r 5).trans s5
      have t6 := (r 6).trans s6
      have t7 := (r 7).trans s7
      clear r hnb s0 s1 s2 s3 s4 s5 s6 s7
      go_wp2_with fail
      refine (hnm.out _ (hW.below hBE)).mono ?_
      rintro e u6 ⟨rfl, hb6⟩
      have hpF := pBlk_st _ _ _ _ _ hpE hb6
      have hB6 := hBE.trans (hb6.mono hBE.size)
      clear p0 p1 p2 p3 f0 f1 t0 t1 t2 t3 t4 t5 t6 t7
      obtain ⟨p0, p1, p2, p3⟩ := cells4 hpF
      have f2 := hpF.free 2
      have f3 := hpF.free 3
      have hpG : pBlk w.heap.size #[.int .i64 2, .bool ng, .int .u64 mv, .int .i64 ev] 25 ((u6.setCell ⟨w.heap.size, 2, none⟩ (.int .u64 mv)).setCell ⟨w.heap.size, 3, none⟩ (.int .i64 ev)) := (hpF.setX 2 _).setX 3 _
      have hBG : Below w.heap.size w ((u6.setCell ⟨w.heap.size, 2, none⟩ (.int .u64 mv)).setCell ⟨w.heap.size, 3, none⟩ (.int .i64 ev)) := (hB6.setCell (p := ⟨w.heap.size, 2, none⟩) (Nat.le_refl _) _).setCell (p := ⟨w.heap.size, 3, none⟩) (Nat.le_refl _) _
      obtain ⟨q0, q1, q2, q3⟩ := cells4 hpG
      go_wp2_with ((with_reducible show wpList _ _ _ (Oper.mk _ (Op.store 25 _ _) _ _ _ _ :: _) _ _); refine wpList_store_whole _ rfl 25 _ _ rfl w.heap.size #[.int .i64 2, .bool ng, .int .u64 mv, .int .i64 ev] #[.int .i64 2, .bool ng, .int .u64 mv, .int .i64 ev] 25 rfl rfl hpG value_size rfl (by simp [Value.oneCell']) ?_; intro u5 hp2 hb2 hz2; obtain ⟨r0, r1, r2, r3⟩ := cells4 hp2)
      exact bodyPost_ret (v := .tuple #[.agg #[.int .i64 2, .bool ng, .int .u64 mv, .int .i64 ev], .int .i64 0]) (by simp [results, Tryz.results14, go_sem, r0, r1, r2, r3]) rfl ⟨rfl, hBG.trans hb2⟩
  · have hn : decN id p = partN id p := by unfold decN; rw [if_neg (by rw [hc]; decide)]
    have hm : decM id p = 0 := by unfold decM; rw [if_neg (by rw [hc]; decide)]
    have he : decE id p = 0 := by unfold decE; rw [if_neg (by rw [hc]; decide)]
    rw [hn, hm, he, hc]
    rw [hc] at hcl
    clear hn hm he hc hf0 hp1 hp64
    generalize partN id p = ng at hpt ⊢
    generalize partK id p = key at hpt hcl
    all_goals
      go_enter Tryz.func14, Tryz.ntmps14
      go_wp2_with fail
      refine (hfn.out _ (hW.below ((Below.refl _ _).alloc (Nat.le_refl _) _))).mono ?_
      rintro e u1 ⟨rfl, hb⟩
      have hB : Below w.heap.size w u1 := ((Below.refl _ _).alloc (Nat.le_refl _) _).trans (hb.mono (by simp))
      have hp := pBlk_st _ _ _ _ _ (pBlk_made w #[.int .i64 0, .bool false, .int .u64 0, .int .i64 0] 25) hb
      go_wp2_with fail
      refine (hof.out _ (hW.below hB)).mono ?_
      rintro e u2 ⟨rfl, hb2⟩
      have hpA := pBlk_st _ _ _ _ _ hp hb2
      have hB2 := hB.trans (hb2.mono hB.size)
      go_wp2_with (first | ((with_reducible show wpList _ _ _ (Oper.mk _ (Op.store 78 _ _) _ _ _ _ :: _) _ _); refine wpList_store_whole _ rfl 78 _ _ rfl (u2).heap.size _ #[.int .i64 0, .int .i64 0, .int .i64 0, .int .i64 0, .int .u64 0, .int .u64 0, .int .u64 0, .nilFunc] 78 rfl rfl (pBlk_made u2 #[.int .i64 0, .int .i64 0, .int .i64 0, .int .i64 0, .int .u64 0, .int .u64 0, .int .u64 0, .nilFunc] 78) shape_size rfl (by simp [Value.oneCell']) ?_; intro w2 hp2 hb3 hz2; obtain ⟨r0, r1, r2, r3, r4, r5, r6, r7⟩ := cells8 hp2))
      have hB3 := (hB2.alloc hB2.size (.cells #[.int .i64 0, .int .i64 0, .int .i64 0, .int .i64 0, .int .u64 0, .int .u64 0, .int .u64 0, .nilFunc] 78)).trans (hb3.mono hB2.size)
      have hpB := pBlk_keep (pBlk_st _ _ _ _ _ hpA ((Below.refl _ _).alloc (Nat.le_refl _) (.cells #[.int .i64 0, .int .i64 0, .int .i64 0, .int .i64 0, .int .u64 0, .int .u64 0, .int .u64 0, .nilFunc] 78))) hb3 (by have := hb.size; have := hb2.size; simp at *; omega)
      refine (hpt.out _).mono ?_
      rintro e u3 ⟨rfl, hb4⟩
      have hpC := pBlk_st _ _ _ _ _ hpB hb4
      have hsC := pBlk_st _ _ _ _ _ hp2 hb4
      clear r0 r1 r2 r3 r4 r5 r6 r7
      obtain ⟨r0, r1, r2, r3, r4, r5, r6, r7⟩ := cells8 hsC
      go_wp2_with fail
      refine (hcl.out _).mono ?_
      rintro e u4 ⟨rfl, hb5⟩
      have hpD := pBlk_st _ _ _ _ _ hpC hb5
      have hsD := pBlk_st _ _ _ _ _ hsC hb5
      obtain ⟨p0, p1, p2, p3⟩ := cells4 hpD
      have f0 := hpD.free 0
      have f1 := hpD.free 1
      have hB5 := (hB3.trans (hb4.mono hB3.size)).trans (hb5.mono (Nat.le_trans hB3.size hb4.size))
      clear hpt hcl hof hfn
      clear r0 r1 r2 r3 r4 r5 r6 r7
      have hpE : pBlk w.heap.size #[.int .i64 3, .bool ng, .int .u64 0, .int .i64 0] 25 ((u4.setCell ⟨w.heap.size, 0, none⟩ (.int .i64 3)).setCell ⟨w.heap.size, 1, none⟩ (.bool ng)) := (hpD.setX 0 _).setX 1 _
      obtain ⟨q0, q1, q2, q3⟩ := cells4 hpE
      have hBE : Below w.heap.size w ((u4.setCell ⟨w.heap.size, 0, none⟩ (.int .i64 3)).setCell ⟨w.heap.size, 1, none⟩ (.bool ng)) := (hB5.setCell (p := ⟨w.heap.size, 0, none⟩) (Nat.le_refl _) _).setCell (p := ⟨w.heap.size, 1, none⟩) (Nat.le_refl _) _
      go_wp2_with ((with_reducible show wpList _ _ _ (Oper.mk _ (Op.store 25 _ _) _ _ _ _ :: _) _ _); refine wpList_store_whole _ rfl 25 _ _ rfl w.heap.size #[.int .i64 3, .bool ng, .int .u64 0, .int .i64 0] #[.int .i64 3, .bool ng, .int .u64 0, .int .i64 0] 25 rfl rfl hpE value_size rfl (by simp [Value.oneCell']) ?_; intro u5 hp2 hb2 hz2; obtain ⟨r0, r1, r2, r3⟩ := cells4 hp2)
      exact bodyPost_ret (v := .tuple #[.agg #[.int .i64 3, .bool ng, .int .u64 0, .int .i64 0], .int .i64 0]) (by simp [results, Tryz.results14, go_sem, r0, r1, r2, r3]) rfl ⟨rfl, hBE.trans hb2⟩
  · have hn : decN id p = false := by unfold decN; rw [if_pos hc]
    have hm : decM id p = 0 := by unfold decM; rw [if_neg (by rw [hc]; decide)]
    have he : decE id p = 0 := by unfold decE; rw [if_neg (by rw [hc]; decide)]
    rw [hn, hm, he, hc]
    rw [hc] at hcl
    clear hn hm he hc hf0 hp1 hp64
    generalize partN id p = ng at hpt
    generalize partK id p = key at hpt hcl
    all_goals
      go_enter Tryz.func14, Tryz.ntmps14
      go_wp2_with fail
      refine (hfn.out _ (hW.below ((Below.refl _ _).alloc (Nat.le_refl _) _))).mono ?_
      rintro e u1 ⟨rfl, hb⟩
      have hB : Below w.heap.size w u1 := ((Below.refl _ _).alloc (Nat.le_refl _) _).trans (hb.mono (by simp))
      have hp := pBlk_st _ _ _ _ _ (pBlk_made w #[.int .i64 0, .bool false, .int .u64 0, .int .i64 0] 25) hb
      go_wp2_with fail
      refine (hof.out _ (hW.below hB)).mono ?_
      rintro e u2 ⟨rfl, hb2⟩
      have hpA := pBlk_st _ _ _ _ _ hp hb2
      have hB2 := hB.trans (hb2.mono hB.size)
      go_wp2_with (first | ((with_reducible show wpList _ _ _ (Oper.mk _ (Op.store 78 _ _) _ _ _ _ :: _) _ _); refine wpList_store_whole _ rfl 78 _ _ rfl (u2).heap.size _ #[.int .i64 0, .int .i64 0, .int .i64 0, .int .i64 0, .int .u64 0, .int .u64 0, .int .u64 0, .nilFunc] 78 rfl rfl (pBlk_made u2 #[.int .i64 0, .int .i64 0, .int .i64 0, .int .i64 0, .int .u64 0, .int .u64 0, .int .u64 0, .nilFunc] 78) shape_size rfl (by simp [Value.oneCell']) ?_; intro w2 hp2 hb3 hz2; obtain ⟨r0, r1, r2, r3, r4, r5, r6, r7⟩ := cells8 hp2))
      have hB3 := (hB2.alloc hB2.size (.cells #[.int .i64 0, .int .i64 0, .int .i64 0, .int .i64 0, .int .u64 0, .int .u64 0, .int .u64 0, .nilFunc] 78)).trans (hb3.mono hB2.size)
      have hpB := pBlk_keep (pBlk_st _ _ _ _ _ hpA ((Below.refl _ _).alloc (Nat.le_refl _) (.cells #[.int .i64 0, .int .i64 0, .int .i64 0, .int .i64 0, .int .u64 0, .int .u64 0, .int .u64 0, .nilFunc] 78))) hb3 (by have := hb.size; have := hb2.size; simp at *; omega)
      refine (hpt.out _).mono ?_
      rintro e u3 ⟨rfl, hb4⟩
      have hpC := pBlk_st _ _ _ _ _ hpB hb4
      have hsC := pBlk_st _ _ _ _ _ hp2 hb4
      clear r0 r1 r2 r3 r4 r5 r6 r7
      obtain ⟨r0, r1, r2, r3, r4, r5, r6, r7⟩ := cells8 hsC
      go_wp2_with fail
      refine (hcl.out _).mono ?_
      rintro e u4 ⟨rfl, hb5⟩
      have hpD := pBlk_st _ _ _ _ _ hpC hb5
      have hsD := pBlk_st _ _ _ _ _ hsC hb5
      obtain ⟨p0, p1, p2, p3⟩ := cells4 hpD
      have f0 := hpD.free 0
      have f1 := hpD.free 1
      have hB5 := (hB3.trans (hb4.mono hB3.size)).trans (hb5.mono (Nat.le_trans hB3.size hb4.size))
      clear hpt hcl hof hfn
      clear r0 r1 r2 r3 r4 r5 r6 r7
      have hpE : pBlk w.heap.size #[.int .i64 4, .bool false, .int .u64 0, .int .i64 0] 25 (u4.setCell ⟨w.heap.size, 0, none⟩ (.int .i64 4)) := hpD.setX 0 _
      obtain ⟨q0, q1, q2, q3⟩ := cells4 hpE
      have hBE : Below w.heap.size w (u4.setCell ⟨w.heap.size, 0, none⟩ (.int .i64 4)) := hB5.setCell (p := ⟨w.heap.size, 0, none⟩) (Nat.le_refl _) _
      go_wp2_with ((with_reducible show wpList _ _ _ (Oper.mk _ (Op.store 25 _ _) _ _ _ _ :: _) _ _); refine wpList_store_whole _ rfl 25 _ _ rfl w.heap.size #[.int .i64 4, .bool false, .int .u64 0, .int .i64 0] #[.int .i64 4, .bool false, .int .u64 0, .int .i64 0] 25 rfl rfl hpE value_size rfl (by simp [Value.oneCell']) ?_; intro u5 hp2 hb2 hz2; obtain ⟨r0, r1, r2, r3⟩ := cells4 hp2)
      exact bodyPost_ret (v := .tuple #[.agg #[.int .i64 4, .bool false, .int .u64 0, .int .i64 0], .int .i64 0]) (by simp [results, Tryz.results14, go_sem, r0, r1, r2, r3]) rfl ⟨rfl, hBE.trans hb2⟩
end Go.Proofs.YtdlkfnkmdlcekaaGreatDoor
namespace Go.Proofs.YtdlkfnkmdlcekaaGreatDoor
open Go.RowKit Go.Cal
set_option maxRecDepth 100000 in
set_option maxHeartbeats 1000000 in
theorem vkey_yes (id p : Int) (h1 : 1 ≤ id) (h2 : id < 15) (hp0 : 0 ≤ p) (hp1 : p < 2 ^ (fW id).toNat) (hc : classV id p = 1 ∨ classV id p = 2) (w : World) (hW : VaW w) :
    Calls Tryz.prog 17 #[.int .i64 id, .int .u64 p] w fun e w' => e = .returned (.tuple #[.bool (partN id p), .int .u64 (partK id p), .int .i64 0]) ∧ Below w.heap.size w w' := by
  have hdc := fun w hW => vdec_yes id p h1 h2 hp0 hp1 w hW
  have hof := Lib.hid fun w hW => vof_yes id h1 h2 w hW
  have hpt := Lib.hid fun w => vparts_any id p h1 h2 hp0 hp1 w
  generalize decN id p = dn at hdc
  generalize decM id p = dm at hdc
  generalize decE id p = de at hdc
  generalize partN id p = ng at hpt ⊢
  generalize partK id p = key at hpt ⊢
  clear hp0 hp1
  rcases hc with hc | hc
  · rw [hc] at hdc
    replace hdc := Lib.hid hdc
    clear hc
    go_enter Tryz.func17, Tryz.ntmps17
    go_wp2_with fail
    refine (hdc.out _ hW).mono ?_
    rintro e u1 ⟨rfl, hb⟩
    go_wp2_with fail
    have hB := hb.alloc hb.size (.cells #[.int .i64 1, .bool dn, .int .u64 (dm : Nat), .int .i64 de] 25)
    refine (hof.out _ (hW.below hB)).mono ?_
    rintro e u2 ⟨rfl, hb1⟩
    have hB2 := hB.trans (hb1.mono hB.size)
    go_wp2_with (first | ((with_reducible show wpList _ _ _ (Oper.mk _ (Op.store 78 _ _) _ _ _ _ :: _) _ _); refine wpList_store_whole _ rfl 78 _ _ rfl (u2).heap.size _ #[.int .i64 0, .int .i64 0, .int .i64 0, .int .i64 0, .int .u64 0, .int .u64 0, .int .u64 0, .nilFunc] 78 rfl rfl (pBlk_made u2 #[.int .i64 0, .int .i64 0, .int .i64 0, .int .i64 0, .int .u64 0, .int .u64 0, .int .u64 0, .nilFunc] 78) shape_size rfl (by simp [Value.oneCell']) ?_; intro w2 hp2 hb3 hz2; obtain ⟨r0, r1, r2, r3, r4, r5, r6, r7⟩ := cells8 hp2))
    have hB3 := (hB2.alloc hB2.size (.cells #[.int .i64 0, .int .i64 0, .int .i64 0, .int .i64 0, .int .u64 0, .int .u64 0, .int .u64 0, .nilFunc] 78)).trans (hb3.mono hB2.size)
    refine (hpt.out _).mono ?_
    rintro e u3 ⟨rfl, hb4⟩
    go_wp2
    go_ret3
    exact ⟨rfl, hB3.trans (hb4.mono hB3.size)⟩
  · rw [hc] at hdc
    replace hdc := Lib.hid hdc
    clear hc
    go_enter Tryz.func17, Tryz.ntmps17
    go_wp2_with fail
    refine (hdc.out _ hW).mono ?_
    rintro e u1 ⟨rfl, hb⟩
    go_wp2_with fail
    have hB := hb.alloc hb.size (.cells #[.int .i64 2, .bool dn, .int .u64 (dm : Nat), .int .i64 de] 25)
    refine (hof.out _ (hW.below hB)).mono ?_
    rintro e u2 ⟨rfl, hb1⟩
    have hB2 := hB.trans (hb1.mono hB.size)
    go_wp2_with (first | ((with_reducible show wpList _ _ _ (Oper.mk _ (Op.store 78 _ _) _ _ _ _ :: _) _ _); refine wpList_store_whole _ rfl 78 _ _ rfl (u2).heap.size _ #[.int .i64 0, .int .i64 0, .int .i64 0, .int .i64 0, .int .u64 0, .int .u64 0, .int .u64 0, .nilFunc] 78 rfl rfl (pBlk_made u2 #[.int .i64 0, .int .i64 0, .int .i64 0, .int .i64 0, .int .u64 0, .int .u64 0, .int .u64 0, .nilFunc] 78) shape_size rfl (by simp [Value.oneCell']) ?_; intro w2 hp2 hb3 hz2; obtain ⟨r0, r1, r2, r3, r4, r5, r6, r7⟩ := cells8 hp2))
    have hB3 := (hB2.alloc hB2.size (.cells #[.int .i64 0, .int .i64 0, .int .i64 0, .int .i64 0, .int .u64 0, .int .u64 0, .int .u64 0, .nilFunc] 78)).trans (hb3.mono hB2.size)
    refine (hpt.out _).mono ?_
    rintro e u3 ⟨rfl, hb4⟩
    go_wp2
    go_ret3
    exact ⟨rfl, hB3.trans (hb4.mono hB3.size)⟩
set_option maxRecDepth 100000 in
set_option maxHeartbeats 1000000 in
theorem vkey_form (id p : Int) (hp0 : 0 ≤ p) (hp1 : p < 18446744073709551616) (hf : fitsV id p ≠ 0) (w : World) (hW : VaW w) :
    Calls Tryz.prog 17 #[.int .i64 id, .int .u64 p] w fun e w' => e = .returned (.tuple #[.bool false, .int .u64 0, .int .i64 (fitsV id p)]) ∧ Below w.heap.size w w' := by
  have hdc := Lib.hid fun w hW => vdec_no id p hp0 hp1 hf w hW
  have hff : (fitsV id p != 0) = true := by simp [hf]
  generalize fitsV id p = E at hdc hff ⊢
  clear hf hp0 hp1
  go_enter Tryz.func17, Tryz.ntmps17
  go_wp2_with fail
  refine (hdc.out _ hW).mono ?_
  rintro e u1 ⟨rfl, hb⟩
  go_wp2
  go_ret3
  exact ⟨rfl, hb.alloc hb.size _⟩
set_option maxRecDepth 100000 in
set_option maxHeartbeats 1000000 in
theorem vkey_none (id p : Int) (h1 : 1 ≤ id) (h2 : id < 15) (hp0 : 0 ≤ p) (hp1 : p < 2 ^ (fW id).toNat) (hc : classV id p = 3 ∨ classV id p = 4) (w : World) (hW : VaW w) :
    Calls Tryz.prog 17 #[.int .i64 id, .int .u64 p] w fun e w' => e = .returned (.tuple #[.bool false, .int .u64 0, .int .i64 5]) ∧ Below w.heap.size w w' := by
  have hdc := fun w hW => vdec_yes id p h1 h2 hp0 hp1 w hW
  generalize decN id p = dn at hdc
  generalize decM id p = dm at hdc
  generalize decE id p = de at hdc
  clear hp0 hp1
  rcases hc with hc | hc
  all_goals
    rw [hc] at hdc
    replace hdc := Lib.hid hdc
    clear hc
    go_enter Tryz.func17, Tryz.ntmps17
    go_wp2_with fail
    refine (hdc.out _ hW).mono ?_
    rintro e u1 ⟨rfl, hb⟩
    go_wp2
    go_ret3
    exact ⟨rfl, hb.alloc hb.size _⟩
end Go.Proofs.YtdlkfnkmdlcekaaGreatDoor
