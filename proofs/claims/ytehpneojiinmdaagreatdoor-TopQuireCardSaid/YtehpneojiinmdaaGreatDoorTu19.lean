/- The shortest digits: the nearer one of two neighbours, walked. Conditions: none. -/
/- Rounding: Round, walked: the pattern of a number. Conditions: the variables that values read. -/
/- Rounding: Round, walked: the pattern of a number. Conditions: the variables that values read. -/
import Derived.Test.YtehpneojiinmdaaGreatDoorTu18
namespace Go.Proofs.YtehpneojiinmdaaGreatDoor
open Go.RowKit Go.Cal
section
variable {w W W' : World} {Al Ah A1 A3 : Option Addr} {nl cl nh ch n1 c1 n3 c3 m q lN hN : Nat} {lT hT : Int} {ev : Bool}
theorem boxN (h : LiveP w W [pT (.slice A3 n3 c3) (m + 1) (q + 1), pT (.slice A1 n1 c1) m q, pT (.slice Ah nh ch) 128 hN, pT (.slice Al nl cl) 128 lN, pBlk w.heap.size #[.bool false, .slice Al nl cl, .int .i64 lT, .int .i64 0, .bool false, .slice Ah nh ch, .int .i64 hT, .int .i64 0, .bool ev] 200]) : LiveP w W [pT (.slice A3 n3 c3) (m + 1) (q + 1), pT (.slice A1 n1 c1) m q, pT (.slice Ah nh ch) 128 hN, pT (.slice Al nl cl) 128 lN, pBlk w.heap.size #[.bool false, .slice Al nl cl, .int .i64 lT, .int .i64 0, .bool false, .slice Ah nh ch, .int .i64 hT, .int .i64 0, .bool ev] 200] ∧ w.heap.size < (W).heap.size ∧ (W).cell? ⟨w.heap.size, 0, none⟩ = some (.bool false) ∧ (W).cell? ⟨w.heap.size, 1, none⟩ = some (.slice Al nl cl) ∧ (W).cell? ⟨w.heap.size, 2, none⟩ = some (.int .i64 lT) ∧ (W).cell? ⟨w.heap.size, 3, none⟩ = some (.int .i64 0) ∧ (W).cell? ⟨w.heap.size, 4, none⟩ = some (.bool false) ∧ (W).cell? ⟨w.heap.size, 5, none⟩ = some (.slice Ah nh ch) ∧ (W).cell? ⟨w.heap.size, 6, none⟩ = some (.int .i64 hT) ∧ (W).cell? ⟨w.heap.size, 7, none⟩ = some (.int .i64 0) ∧ (W).cell? ⟨w.heap.size, 8, none⟩ = some (.bool ev) := by
  have p1 := h.get (P := pBlk w.heap.size #[.bool false, .slice Al nl cl, .int .i64 lT, .int .i64 0, .bool false, .slice Ah nh ch, .int .i64 hT, .int .i64 0, .bool ev] 200) (by repeat (first | exact List.mem_cons_self | apply List.mem_cons_of_mem))
  exact ⟨h, p1.lt, p1.cell 0 _ rfl, p1.cell 1 _ rfl, p1.cell 2 _ rfl, p1.cell 3 _ rfl, p1.cell 4 _ rfl, p1.cell 5 _ rfl, p1.cell 6 _ rfl, p1.cell 7 _ rfl, p1.cell 8 _ rfl⟩
theorem keepN (h : LiveP w W [pT (.slice A3 n3 c3) (m + 1) (q + 1), pT (.slice A1 n1 c1) m q, pT (.slice Ah nh ch) 128 hN, pT (.slice Al nl cl) 128 lN, pBlk w.heap.size #[.bool false, .slice Al nl cl, .int .i64 lT, .int .i64 0, .bool false, .slice Ah nh ch, .int .i64 hT, .int .i64 0, .bool ev] 200] ∧ w.heap.size < (W).heap.size ∧ (W).cell? ⟨w.heap.size, 0, none⟩ = some (.bool false) ∧ (W).cell? ⟨w.heap.size, 1, none⟩ = some (.slice Al nl cl) ∧ (W).cell? ⟨w.heap.size, 2, none⟩ = some (.int .i64 lT) ∧ (W).cell? ⟨w.heap.size, 3, none⟩ = some (.int .i64 0) ∧ (W).cell? ⟨w.heap.size, 4, none⟩ = some (.bool false) ∧ (W).cell? ⟨w.heap.size, 5, none⟩ = some (.slice Ah nh ch) ∧ (W).cell? ⟨w.heap.size, 6, none⟩ = some (.int .i64 hT) ∧ (W).cell? ⟨w.heap.size, 7, none⟩ = some (.int .i64 0) ∧ (W).cell? ⟨w.heap.size, 8, none⟩ = some (.bool ev)) (hb : Below W.heap.size W W') : LiveP w W' [pT (.slice A3 n3 c3) (m + 1) (q + 1), pT (.slice A1 n1 c1) m q, pT (.slice Ah nh ch) 128 hN, pT (.slice Al nl cl) 128 lN, pBlk w.heap.size #[.bool false, .slice Al nl cl, .int .i64 lT, .int .i64 0, .bool false, .slice Ah nh ch, .int .i64 hT, .int .i64 0, .bool ev] 200] ∧ w.heap.size < (W').heap.size ∧ (W').cell? ⟨w.heap.size, 0, none⟩ = some (.bool false) ∧ (W').cell? ⟨w.heap.size, 1, none⟩ = some (.slice Al nl cl) ∧ (W').cell? ⟨w.heap.size, 2, none⟩ = some (.int .i64 lT) ∧ (W').cell? ⟨w.heap.size, 3, none⟩ = some (.int .i64 0) ∧ (W').cell? ⟨w.heap.size, 4, none⟩ = some (.bool false) ∧ (W').cell? ⟨w.heap.size, 5, none⟩ = some (.slice Ah nh ch) ∧ (W').cell? ⟨w.heap.size, 6, none⟩ = some (.int .i64 hT) ∧ (W').cell? ⟨w.heap.size, 7, none⟩ = some (.int .i64 0) ∧ (W').cell? ⟨w.heap.size, 8, none⟩ = some (.bool ev) := boxN (h.1.go hb)
theorem tenN1 {k : Int} (h : LiveP w W [pT (.slice A3 n3 c3) (m + 1) (q + 1), pT (.slice A1 n1 c1) m q, pT (.slice Ah nh ch) 128 hN, pT (.slice Al nl cl) 128 lN, pBlk w.heap.size #[.bool false, .slice Al nl cl, .int .i64 lT, .int .i64 0, .bool false, .slice Ah nh ch, .int .i64 hT, .int .i64 0, .bool ev] 200] ∧ w.heap.size < (W).heap.size ∧ (W).cell? ⟨w.heap.size, 0, none⟩ = some (.bool false) ∧ (W).cell? ⟨w.heap.size, 1, none⟩ = some (.slice Al nl cl) ∧ (W).cell? ⟨w.heap.size, 2, none⟩ = some (.int .i64 lT) ∧ (W).cell? ⟨w.heap.size, 3, none⟩ = some (.int .i64 0) ∧ (W).cell? ⟨w.heap.size, 4, none⟩ = some (.bool false) ∧ (W).cell? ⟨w.heap.size, 5, none⟩ = some (.slice Ah nh ch) ∧ (W).cell? ⟨w.heap.size, 6, none⟩ = some (.int .i64 hT) ∧ (W).cell? ⟨w.heap.size, 7, none⟩ = some (.int .i64 0) ∧ (W).cell? ⟨w.heap.size, 8, none⟩ = some (.bool ev)) (hmm : m ≤ 1048575) (hq : q + 1 < 18446744073709551616 ^ 128) (hk : -5000 ≤ k ∧ k ≤ 5000) : Calls Tryz.prog 164 #[.slice A1 n1 c1, .int .i64 k] W fun e w' => ∃ A n c, e = .returned (.agg #[.bool false, .slice A n c, .int .i64 k, .int .i64 k]) ∧ IsT w' (.slice A n c) 128 q ∧ Below W.heap.size W w' :=
  ten_any k (IsT.isN (h.1.get (P := pT (.slice A1 n1 c1) m q) (by repeat (first | exact List.mem_cons_self | apply List.mem_cons_of_mem)))) (by omega) (Nat.lt_of_succ_lt hq) hk
theorem tenN3 {k : Int} (h : LiveP w W [pT (.slice A3 n3 c3) (m + 1) (q + 1), pT (.slice A1 n1 c1) m q, pT (.slice Ah nh ch) 128 hN, pT (.slice Al nl cl) 128 lN, pBlk w.heap.size #[.bool false, .slice Al nl cl, .int .i64 lT, .int .i64 0, .bool false, .slice Ah nh ch, .int .i64 hT, .int .i64 0, .bool ev] 200] ∧ w.heap.size < (W).heap.size ∧ (W).cell? ⟨w.heap.size, 0, none⟩ = some (.bool false) ∧ (W).cell? ⟨w.heap.size, 1, none⟩ = some (.slice Al nl cl) ∧ (W).cell? ⟨w.heap.size, 2, none⟩ = some (.int .i64 lT) ∧ (W).cell? ⟨w.heap.size, 3, none⟩ = some (.int .i64 0) ∧ (W).cell? ⟨w.heap.size, 4, none⟩ = some (.bool false) ∧ (W).cell? ⟨w.heap.size, 5, none⟩ = some (.slice Ah nh ch) ∧ (W).cell? ⟨w.heap.size, 6, none⟩ = some (.int .i64 hT) ∧ (W).cell? ⟨w.heap.size, 7, none⟩ = some (.int .i64 0) ∧ (W).cell? ⟨w.heap.size, 8, none⟩ = some (.bool ev)) (hmm : m ≤ 1048575) (hq : q + 1 < 18446744073709551616 ^ 128) (hk : -5000 ≤ k ∧ k ≤ 5000) : Calls Tryz.prog 164 #[.slice A3 n3 c3, .int .i64 k] W fun e w' => ∃ A n c, e = .returned (.agg #[.bool false, .slice A n c, .int .i64 k, .int .i64 k]) ∧ IsT w' (.slice A n c) 128 (q + 1) ∧ Below W.heap.size W w' :=
  ten_any k (IsT.isN (h.1.get (P := pT (.slice A3 n3 c3) (m + 1) (q + 1)) (by repeat (first | exact List.mem_cons_self | apply List.mem_cons_of_mem)))) (by omega) hq hk
theorem hasN {A : Option Addr} {n c d : Nat} {k : Int} {o : Bool} (h : LiveP w W [pT (.slice A3 n3 c3) (m + 1) (q + 1), pT (.slice A1 n1 c1) m q, pT (.slice Ah nh ch) 128 hN, pT (.slice Al nl cl) 128 lN, pBlk w.heap.size #[.bool false, .slice Al nl cl, .int .i64 lT, .int .i64 0, .bool false, .slice Ah nh ch, .int .i64 hT, .int .i64 0, .bool ev] 200] ∧ w.heap.size < (W).heap.size ∧ (W).cell? ⟨w.heap.size, 0, none⟩ = some (.bool false) ∧ (W).cell? ⟨w.heap.size, 1, none⟩ = some (.slice Al nl cl) ∧ (W).cell? ⟨w.heap.size, 2, none⟩ = some (.int .i64 lT) ∧ (W).cell? ⟨w.heap.size, 3, none⟩ = some (.int .i64 0) ∧ (W).cell? ⟨w.heap.size, 4, none⟩ = some (.bool false) ∧ (W).cell? ⟨w.heap.size, 5, none⟩ = some (.slice Ah nh ch) ∧ (W).cell? ⟨w.heap.size, 6, none⟩ = some (.int .i64 hT) ∧ (W).cell? ⟨w.heap.size, 7, none⟩ = some (.int .i64 0) ∧ (W).cell? ⟨w.heap.size, 8, none⟩ = some (.bool ev)) (hv : IsT W (.slice A n c) 128 d) (h1 : -5000 ≤ lT ∧ lT ≤ 5000) (h2 : -5000 ≤ hT ∧ hT ≤ 5000) (hk : -5000 ≤ k ∧ k ≤ 5000) (ho : itvHas ⟨lN, lT, hN, hT, ev⟩ d k = o) : Calls Tryz.prog 163 #[.agg #[.bool false, .slice Al nl cl, .int .i64 lT, .int .i64 0, .bool false, .slice Ah nh ch, .int .i64 hT, .int .i64 0, .bool ev], .agg #[.bool false, .slice A n c, .int .i64 k, .int .i64 k]] W fun e w' => e = .returned (.bool o) ∧ Below W.heap.size W w' := by
  subst ho
  exact has_any ⟨lN, lT, hN, hT, ev⟩ k (h.1.get (P := pT (.slice Al nl cl) 128 lN) (by repeat (first | exact List.mem_cons_self | apply List.mem_cons_of_mem))) (h.1.get (P := pT (.slice Ah nh ch) 128 hN) (by repeat (first | exact List.mem_cons_self | apply List.mem_cons_of_mem))) hv h1 h2 hk
end
theorem even_t {w : World} {v : Value} {k N : Nat} (h : IsN w v k N) : Calls Tryz.prog 165 #[v] w fun e w' => e = .returned (.bool (N % 2 == 0)) ∧ Below w.heap.size w w' := by
  refine (even_l ((Live.start w).put h) (List.mem_cons_self)).mono ?_
  rintro e w' ⟨he, rfl⟩
  refine ⟨?_, Below.refl _ _⟩
  rw [he]
  congr 2
  rw [Nat.testBit_zero]
  by_cases h2 : N % 2 = 0
  · rw [h2]; rfl
  · have : N % 2 = 1 := by omega
    rw [this]; rfl
theorem isT_more {w : World} {v : Value} {k k' N : Nat} (h : IsT w v k N) (hk : k ≤ k') : IsT w v k' N := by
  obtain ⟨A, c, zs, h1, h2, h3, h4, h5, h6⟩ := h
  exact ⟨A, c, zs, h1, h2, h3, h4, Nat.le_trans h5 hk, h6⟩
theorem isT_shape {w : World} {v : Value} {k N : Nat} (h : IsT w v k N) : ∃ A n c, v = .slice A n c := by
  obtain ⟨A, c, zs, h1, -⟩ := h
  exact ⟨A, _, c, h1⟩
theorem flR_nonneg (N : Nat) (t k : Int) : 0 ≤ flR N t k := by
  unfold flR
  split
  · decide
  · rcases cmpV_cases ((2 * (flA N t k % flB t k) : Nat) : Int) ((flB t k : Nat) : Int) with ⟨_, h⟩ | ⟨_, h⟩ | ⟨_, h⟩ <;> rw [h] <;> decide
/-- What is told is the number, where one is told. -/
def NearOk (R : Option Nat) (w : World) (v : Value) (m : Nat) : Prop := ∀ d, R = some d → IsT w v m d
theorem NearOk.none {w : World} {v : Value} {m : Nat} : NearOk none w v m := fun d h => by cases h
theorem NearOk.some {w : World} {v : Value} {m d : Nat} (h : IsT w v m d) : NearOk (some d) w v m := fun d' h' => by injection h' with h'; subst h'; exact h
set_option maxRecDepth 100000 in
set_option maxHeartbeats 4000000 in
theorem near_any {w : World} {Al Ah A : Option Addr} {nl cl nh ch n c N : Nat} (m : Nat) (hm : 12178 ≤ m) (hmm : m ≤ 1048575) (i : Itv) (t k : Int) (hl : IsT w (.slice Al nl cl) 128 i.lowN) (hh : IsT w (.slice Ah nh ch) 128 i.highN) (hx : IsT w (.slice A n c) 128 N)
    (h1 : -5000 ≤ i.lowT ∧ i.lowT ≤ 5000) (h2 : -5000 ≤ i.highT ∧ i.highT ≤ 5000) (ht : -5000 ≤ t ∧ t ≤ 5000) (hk : -5000 ≤ k ∧ k ≤ 5000) (hq : flQ N t k + 1 < 18446744073709551616 ^ 128) :
    Calls Tryz.prog 132 #[.agg #[.bool false, .slice Al nl cl, .int .i64 i.lowT, .int .i64 0, .bool false, .slice Ah nh ch, .int .i64 i.highT, .int .i64 0, .bool i.even], .agg #[.bool false, .slice A n c, .int .i64 t, .int .i64 0], .int .i64 k] w fun e w' => ∃ A' n' c', e = .returned (.tuple #[.slice A' n' c', .bool (nigV i N t k).isSome]) ∧ NearOk (nigV i N t k) w' (.slice A' n' c') (m + 1) ∧ Below w.heap.size w w' := by
  obtain ⟨lN, lT, hN, hT, ev⟩ := i
  simp only at hl hh h1 h2
  have hfl := fun (W : World) (hx : IsT W (.slice A n c) 128 N) => xfloor_any m hm hmm false t k hx ht hk
  obtain ⟨R, hR⟩ : ∃ R, nigV ⟨lN, lT, hN, hT, ev⟩ N t k = R := ⟨_, rfl⟩
  rw [hR]
  unfold nigV at hR
  have hf0 := flR_nonneg N t k
  generalize flQ N t k = q at hfl hq hR
  generalize flR N t k = fr at hfl hR hf0
  obtain ⟨o1, ho1⟩ : ∃ o, itvHas ⟨lN, lT, hN, hT, ev⟩ q k = o := ⟨_, rfl⟩
  obtain ⟨o2, ho2⟩ : ∃ o, itvHas ⟨lN, lT, hN, hT, ev⟩ (q + 1) k = o := ⟨_, rfl⟩
  rw [ho1, ho2] at hR
  replace hfl := Lib.hid hfl
  have hb0 : Below w.heap.size w ((w.alloc (.cells #[.bool false, .slice Al nl cl, .int .i64 lT, .int .i64 0, .bool false, .slice Ah nh ch, .int .i64 hT, .int .i64 0, .bool ev] 200)).alloc (.cells #[.bool false, .slice A n c, .int .i64 t, .int .i64 0] 52)) := ((Below.refl _ _).alloc (Nat.le_refl _) _).alloc (by simp) _
  have hL0 := (LiveP.start w).go hb0
  have hL := (hL0.put (pBlk_st _ _ _) (pBlk_st _ _ _ _ _ (pBlk_made w #[.bool false, .slice Al nl cl, .int .i64 lT, .int .i64 0, .bool false, .slice Ah nh ch, .int .i64 hT, .int .i64 0, .bool ev] 200) ((Below.refl _ _).alloc (Nat.le_refl _) (.cells #[.bool false, .slice A n c, .int .i64 t, .int .i64 0] 52)))).put (pBlk_st _ _ _) (pBlk_madeS (w.alloc (.cells #[.bool false, .slice Al nl cl, .int .i64 lT, .int .i64 0, .bool false, .slice Ah nh ch, .int .i64 hT, .int .i64 0, .bool ev] 200)) #[.bool false, .slice A n c, .int .i64 t, .int .i64 0] 52 (w.heap.size + 1) (by simp))
  have hL := ((hL.put (pT_st (.slice Al nl cl) 128 lN) (hl.below hb0)).put (pT_st (.slice Ah nh ch) 128 hN) (hh.below hb0)).put (pT_st (.slice A n c) 128 N) (hx.below hb0)
  clear hb0 hL0 hl hh hx
  replace hR := Lib.hid hR
  replace ho1 := Lib.hid ho1
  replace ho2 := Lib.hid ho2
  replace h1 := Lib.hid h1
  replace h2 := Lib.hid h2
  replace hk := Lib.hid hk
  replace hq := Lib.hid hq
  have hmx : max m 1 + 1 = m + 1 := by omega
  clear ht hm
  go_enter Tryz.func132, Tryz.ntmps132
  go_wp2_with fail
  refine (hfl.out _ (hL.get (P := pT (.slice A n c) 128 N) (by repeat (first | exact List.mem_cons_self | apply List.mem_cons_of_mem)))).mono ?_
  rintro e w1 ⟨v1, rfl, hv, hb⟩
  obtain ⟨A1, n1, c1, rfl⟩ := isT_shape hv
  replace hL := (hL.go hb).put (pT_st (.slice A1 n1 c1) m q) hv
  clear hb hv
  go_wp2_with fail
  refine (of_one _).mono ?_
  rintro e w2 ⟨v2, rfl, hv, hb⟩
  replace hL := (hL.go hb).put (pT_st v2 1 1) hv
  clear hb hv
  go_wp2_with fail
  refine (add_t (IsT.isN (hL.get (P := pT (.slice A1 n1 c1) m q) (by repeat (first | exact List.mem_cons_self | apply List.mem_cons_of_mem)))) (IsT.isN (hL.get (P := pT v2 1 1) (by repeat (first | exact List.mem_cons_self | apply List.mem_cons_of_mem)))) (by omega) (by decide)).mono ?_
  rintro e w3 ⟨v3, rfl, hv, hb⟩
  rw [hmx] at hv
  obtain ⟨A3, n3, c3, rfl⟩ := isT_shape hv
  replace hL := (hL.go hb).put (pT_st (.slice A3 n3 c3) (m + 1) (q + 1)) hv
  clear hb hv
  have hS0 := boxN ((hL.keep (l' := [pT (.slice A3 n3 c3) (m + 1) (q + 1), pT (.slice A1 n1 c1) m q, pT (.slice Ah nh ch) 128 hN, pT (.slice Al nl cl) 128 lN, pBlk w.heap.size #[.bool false, .slice Al nl cl, .int .i64 lT, .int .i64 0, .bool false, .slice Ah nh ch, .int .i64 hT, .int .i64 0, .bool ev] 200]) (by simp)).go (Below.refl _ _).drew)
  by_cases hf : 0 < fr
  · go_wp2_with fail
    go_region_held3 (fun w' => LiveP w w' [pT (.slice A3 n3 c3) (m + 1) (q + 1), pT (.slice A1 n1 c1) m q, pT (.slice Ah nh ch) 128 hN, pT (.slice Al nl cl) 128 lN, pBlk w.heap.size #[.bool false, .slice Al nl cl, .int .i64 lT, .int .i64 0, .bool false, .slice Ah nh ch, .int .i64 hT, .int .i64 0, .bool ev] 200] ∧ w.heap.size < (w').heap.size ∧ (w').cell? ⟨w.heap.size, 0, none⟩ = some (.bool false) ∧ (w').cell? ⟨w.heap.size, 1, none⟩ = some (.slice Al nl cl) ∧ (w').cell? ⟨w.heap.size, 2, none⟩ = some (.int .i64 lT) ∧ (w').cell? ⟨w.heap.size, 3, none⟩ = some (.int .i64 0) ∧ (w').cell? ⟨w.heap.size, 4, none⟩ = some (.bool false) ∧ (w').cell? ⟨w.heap.size, 5, none⟩ = some (.slice Ah nh ch) ∧ (w').cell? ⟨w.heap.size, 6, none⟩ = some (.int .i64 hT) ∧ (w').cell? ⟨w.heap.size, 7, none⟩ = some (.int .i64 0) ∧ (w').cell? ⟨w.heap.size, 8, none⟩ = some (.bool ev)) (first | exact hS0 | with_reducible assumption | exact keepN (by with_reducible assumption) (by with_reducible assumption))
      (first
        | (go_at_call 164; with_reducible refine (tenN1 (by with_reducible assumption) hmm hq.out hk.out).mono ?_; rintro e w4 ⟨A4, n4, c4, rfl, hv4, hb4⟩)
        | (go_at_call 164; with_reducible refine (tenN3 (by with_reducible assumption) hmm hq.out hk.out).mono ?_; rintro e w5 ⟨A5, n5, c5, rfl, hv5, hb5⟩)
        | (go_at_call 163; with_reducible refine (hasN (by with_reducible assumption) (hv4.below (by with_reducible assumption)) h1.out h2.out hk.out ho1.out).mono ?_; rintro e w6 ⟨rfl, hb6⟩)
        | (go_at_call 163; with_reducible refine (hasN (by with_reducible assumption) hv4 h1.out h2.out hk.out ho1.out).mono ?_; rintro e w6 ⟨rfl, hb6⟩)
        | (go_at_call 163; with_reducible refine (hasN (by with_reducible assumption) (hv5.below (by with_reducible assumption)) h1.out h2.out hk.out ho2.out).mono ?_; rintro e w7 ⟨rfl, hb7⟩)
        | (go_at_call 163; with_reducible refine (hasN (by with_reducible assumption) hv5 h1.out h2.out hk.out ho2.out).mono ?_; rintro e w7 ⟨rfl, hb7⟩))
    have hq7 : LiveP w w7 [pT (.slice A3 n3 c3) (m + 1) (q + 1), pT (.slice A1 n1 c1) m q, pT (.slice Ah nh ch) 128 hN, pT (.slice Al nl cl) 128 lN, pBlk w.heap.size #[.bool false, .slice Al nl cl, .int .i64 lT, .int .i64 0, .bool false, .slice Ah nh ch, .int .i64 hT, .int .i64 0, .bool ev] 200] ∧ w.heap.size < (w7).heap.size ∧ (w7).cell? ⟨w.heap.size, 0, none⟩ = some (.bool false) ∧ (w7).cell? ⟨w.heap.size, 1, none⟩ = some (.slice Al nl cl) ∧ (w7).cell? ⟨w.heap.size, 2, none⟩ = some (.int .i64 lT) ∧ (w7).cell? ⟨w.heap.size, 3, none⟩ = some (.int .i64 0) ∧ (w7).cell? ⟨w.heap.size, 4, none⟩ = some (.bool false) ∧ (w7).cell? ⟨w.heap.size, 5, none⟩ = some (.slice Ah nh ch) ∧ (w7).cell? ⟨w.heap.size, 6, none⟩ = some (.int .i64 hT) ∧ (w7).cell? ⟨w.heap.size, 7, none⟩ = some (.int .i64 0) ∧ (w7).cell? ⟨w.heap.size, 8, none⟩ = some (.bool ev) := by with_reducible assumption
    have hL7 := hq7.1
    clear hq7 hS0 hL
    cases o1 <;> cases o2
    · have hR' := hR.out
      rw [if_neg (by simp), if_neg (by simp), if_neg (by simp)] at hR'
      subst hR'
      go_wp2
      go_ret2
      exact ⟨A1, n1, c1, (by first | rfl | trivial), NearOk.none, hL7.below⟩
    · have hR' := hR.out
      rw [if_neg (by simp), if_pos ⟨hf, rfl⟩] at hR'
      subst hR'
      go_wp2
      go_ret2
      exact ⟨A3, n3, c3, (by first | rfl | trivial), NearOk.some (hL7.get (P := pT (.slice A3 n3 c3) (m + 1) (q + 1)) (by repeat (first | exact List.mem_cons_self | apply List.mem_cons_of_mem))), hL7.below⟩
    · have hR' := hR.out
      rw [if_neg (by simp), if_neg (by simp), if_pos rfl] at hR'
      subst hR'
      go_wp2
      go_ret2
      exact ⟨A1, n1, c1, (by first | rfl | trivial), NearOk.some (isT_more (hL7.get (P := pT (.slice A1 n1 c1) m q) (by repeat (first | exact List.mem_cons_self | apply List.mem_cons_of_mem))) (Nat.le_succ m)), hL7.below⟩
    · have hR' := hR.out
      rw [if_pos ⟨rfl, hf, rfl⟩] at hR'
      by_cases h2' : 2 < fr
      · rw [if_pos (.inl h2')] at hR'
        subst hR'
        go_wp2
        go_ret2
        exact ⟨A3, n3, c3, (by first | rfl | trivial), NearOk.some (hL7.get (P := pT (.slice A3 n3 c3) (m + 1) (q + 1)) (by repeat (first | exact List.mem_cons_self | apply List.mem_cons_of_mem))), hL7.below⟩
      · by_cases h22 : fr = 2
        · subst h22
          obtain ⟨eb, heb⟩ : ∃ eb, (q % 2 == 0) = eb := ⟨_, rfl⟩
          have hev := even_t (IsT.isN (hL7.get (P := pT (.slice A1 n1 c1) m q) (by repeat (first | exact List.mem_cons_self | apply List.mem_cons_of_mem))))
          rw [heb] at hev
          replace hev := Lib.hid hev
          go_wp2_with fail
          refine hev.out.mono ?_
          rintro e w8 ⟨rfl, hb⟩
          replace hL7 := hL7.go hb
          clear hb hev
          cases eb with
          | true =>
            rw [if_neg (by simp at heb ⊢; omega)] at hR'
            subst hR'
            go_wp2
            go_ret2
            exact ⟨A1, n1, c1, (by first | rfl | trivial), NearOk.some (isT_more (hL7.get (P := pT (.slice A1 n1 c1) m q) (by repeat (first | exact List.mem_cons_self | apply List.mem_cons_of_mem))) (Nat.le_succ m)), hL7.below⟩
          | false =>
            rw [if_pos (.inr ⟨by first | rfl | trivial, by simp at heb; omega⟩)] at hR'
            subst hR'
            go_wp2
            go_ret2
            exact ⟨A3, n3, c3, (by first | rfl | trivial), NearOk.some (hL7.get (P := pT (.slice A3 n3 c3) (m + 1) (q + 1)) (by repeat (first | exact List.mem_cons_self | apply List.mem_cons_of_mem))), hL7.below⟩
        · rw [if_neg (by omega)] at hR'
          subst hR'
          have h22' : (fr == 2) = false := by simp [h22]
          go_wp2
          go_ret2
          exact ⟨A1, n1, c1, (by first | rfl | trivial), NearOk.some (isT_more (hL7.get (P := pT (.slice A1 n1 c1) m q) (by repeat (first | exact List.mem_cons_self | apply List.mem_cons_of_mem))) (Nat.le_succ m)), hL7.below⟩
  · obtain rfl : fr = 0 := by omega
    clear hf hf0
    have hS0' := hS0
    obtain ⟨-, hlt0, d0, d1, d2, d3, d4, d5, d6, d7, d8⟩ := hS0'
    have htn := fun (W : World) (h : LiveP w W [pT (.slice A3 n3 c3) (m + 1) (q + 1), pT (.slice A1 n1 c1) m q, pT (.slice Ah nh ch) 128 hN, pT (.slice Al nl cl) 128 lN, pBlk w.heap.size #[.bool false, .slice Al nl cl, .int .i64 lT, .int .i64 0, .bool false, .slice Ah nh ch, .int .i64 hT, .int .i64 0, .bool ev] 200] ∧ w.heap.size < (W).heap.size ∧ (W).cell? ⟨w.heap.size, 0, none⟩ = some (.bool false) ∧ (W).cell? ⟨w.heap.size, 1, none⟩ = some (.slice Al nl cl) ∧ (W).cell? ⟨w.heap.size, 2, none⟩ = some (.int .i64 lT) ∧ (W).cell? ⟨w.heap.size, 3, none⟩ = some (.int .i64 0) ∧ (W).cell? ⟨w.heap.size, 4, none⟩ = some (.bool false) ∧ (W).cell? ⟨w.heap.size, 5, none⟩ = some (.slice Ah nh ch) ∧ (W).cell? ⟨w.heap.size, 6, none⟩ = some (.int .i64 hT) ∧ (W).cell? ⟨w.heap.size, 7, none⟩ = some (.int .i64 0) ∧ (W).cell? ⟨w.heap.size, 8, none⟩ = some (.bool ev)) => tenN1 (k := k) h hmm hq.out hk.out
    have hhs := fun (W : World) A n c (h : LiveP w W [pT (.slice A3 n3 c3) (m + 1) (q + 1), pT (.slice A1 n1 c1) m q, pT (.slice Ah nh ch) 128 hN, pT (.slice Al nl cl) 128 lN, pBlk w.heap.size #[.bool false, .slice Al nl cl, .int .i64 lT, .int .i64 0, .bool false, .slice Ah nh ch, .int .i64 hT, .int .i64 0, .bool ev] 200] ∧ w.heap.size < (W).heap.size ∧ (W).cell? ⟨w.heap.size, 0, none⟩ = some (.bool false) ∧ (W).cell? ⟨w.heap.size, 1, none⟩ = some (.slice Al nl cl) ∧ (W).cell? ⟨w.heap.size, 2, none⟩ = some (.int .i64 lT) ∧ (W).cell? ⟨w.heap.size, 3, none⟩ = some (.int .i64 0) ∧ (W).cell? ⟨w.heap.size, 4, none⟩ = some (.bool false) ∧ (W).cell? ⟨w.heap.size, 5, none⟩ = some (.slice Ah nh ch) ∧ (W).cell? ⟨w.heap.size, 6, none⟩ = some (.int .i64 hT) ∧ (W).cell? ⟨w.heap.size, 7, none⟩ = some (.int .i64 0) ∧ (W).cell? ⟨w.heap.size, 8, none⟩ = some (.bool ev)) (hv : IsT W (.slice A n c) 128 q) => hasN (k := k) h hv h1.out h2.out hk.out ho1.out
    replace htn := Lib.hid htn
    replace hhs := Lib.hid hhs
    go_wp2_with fail
    first | (go_region_law (first
      | (go_simp; go_at_call 164; refine Calls.mono (htn.out _ hS0) ?_; rintro e w4 ⟨A4, n4, c4, rfl, hv4, hb4⟩; (have hS4 := keepN hS0 hb4); (obtain ⟨-, hlt4, g0, g1, g2, g3, g4, g5, g6, g7, g8⟩ := id hS4))
      | (go_simp; go_at_call 163; refine Calls.mono (hhs.out _ _ _ _ hS4 hv4) ?_; rintro e w7 ⟨rfl, hb7⟩))) | fail
    all_goals
      have hL7 := hS4.1.go hb7
      clear hS0 hL hS4
      have hR' := hR.out
      rw [if_neg (fun h => absurd h.2.1 (by decide)), if_neg (fun h => absurd h.1 (by decide))] at hR'
      cases o1
      · rw [if_neg (by simp)] at hR'
        subst hR'
        go_wp2
        go_ret2
        exact ⟨A1, n1, c1, (by first | rfl | trivial), NearOk.none, hL7.below⟩
      · rw [if_pos rfl] at hR'
        subst hR'
        go_wp2
        go_ret2
        exact ⟨A1, n1, c1, (by first | rfl | trivial), NearOk.some (isT_more (hL7.get (P := pT (.slice A1 n1 c1) m q) (by repeat (first | exact List.mem_cons_self | apply List.mem_cons_of_mem))) (Nat.le_succ m)), hL7.below⟩
end Go.Proofs.YtehpneojiinmdaaGreatDoor
namespace Go.Proofs.YtehpneojiinmdaaGreatDoor
open Go.RowKit Go.Cal
theorem large_cases {id : Int} (h1 : 1 ≤ id) (h2 : id < 15) (mode : Int) (neg : Bool) :
    ((mode == 1) = true ∧ largeV id mode neg = patV id neg (mostV id neg)) ∨ ((mode == 1) = false ∧ (fK id == 1) = true ∧ largeV id mode neg = patV id neg (mostV id neg)) ∨
    ((mode == 1) = false ∧ (fK id == 1) = false ∧ (bits BinOp.or IntKind.u64 (fI id) (fN id) == 0) = true ∧ largeV id mode neg = patV id neg (mostV id neg)) ∨
    ((mode == 1) = false ∧ (fK id == 1) = false ∧ (bits BinOp.or IntKind.u64 (fI id) (fN id) == 0) = false ∧ (fI id == 0) = true ∧ largeV id mode neg = fN id) ∨
    ((mode == 1) = false ∧ (fK id == 1) = false ∧ (bits BinOp.or IntKind.u64 (fI id) (fN id) == 0) = false ∧ (fI id == 0) = false ∧ neg = false ∧ largeV id mode neg = fI id) ∨
    ((mode == 1) = false ∧ (fK id == 1) = false ∧ (bits BinOp.or IntKind.u64 (fI id) (fN id) == 0) = false ∧ (fI id == 0) = false ∧ neg = true ∧ fK id ≠ 4 ∧ fI id < 2 ^ ((fW id).toNat - 1) ∧ largeV id mode neg = fI id + 2 ^ ((fW id).toNat - 1)) := by
  by_cases hm : mode = 1
  · left
    refine ⟨by simp [hm], ?_⟩
    unfold largeV
    rw [if_pos (.inl hm)]
  · right
    have hm' : (mode == 1) = false := by simp [hm]
    simp only [hm', true_and]
    have hl : largeV id mode neg = largeV id 2 neg := by
      unfold largeV
      simp only [hm, false_or, show ¬ ((2 : Int) = 1) by decide]
    rw [hl]
    clear hl hm hm'
    rcases id_cases h1 h2 with rfl | rfl | rfl | rfl | rfl | rfl | rfl | rfl | rfl | rfl | rfl | rfl | rfl | rfl <;> cases neg <;> decide +kernel
set_option maxRecDepth 100000 in
set_option maxHeartbeats 1000000 in
theorem rlarge_any (id mode : Int) (neg : Bool) (he : mostE id neg = 0) (w : World) (hW : VaW w) :
    Calls Tryz.prog 65 #[.agg #[.int .i64 (fK id), .int .i64 (fW id), .int .i64 (fM id), .int .i64 (fB id), .int .u64 (fT id), .int .u64 (fI id), .int .u64 (fN id)], .int .i64 id, .int .i64 mode, .bool neg] w fun e w' => e = .returned (.int .u64 (largeV id mode neg)) ∧ Below w.heap.size w w' := by
  obtain ⟨h1, h2, h4⟩ := mostE_zero he
  obtain ⟨hmf, hmR⟩ := most_fit he
  obtain ⟨w1, w2, -⟩ := fo_wide h1 h2
  have hbn := mostV_bnd id neg
  have hmo := fun w hW => vmost_any id neg w hW
  rw [he, hmR] at hmo
  replace hmo := Lib.hid hmo
  have hpt := Lib.hid (fun w hW => vpat_any id neg (mostV id neg) he (by omega) (Int.le_refl _) w hW)
  have hL := (((LiveP.start w).go ((Below.refl w.heap.size w).alloc (Nat.le_refl _) (.cells #[.int .i64 (fK id), .int .i64 (fW id), .int .i64 (fM id), .int .i64 (fB id), .int .u64 (fT id), .int .u64 (fI id), .int .u64 (fN id)] 25))).put (pBlk_st _ _ _) (pBlk_made w #[.int .i64 (fK id), .int .i64 (fW id), .int .i64 (fM id), .int .i64 (fB id), .int .u64 (fT id), .int .u64 (fI id), .int .u64 (fN id)] 25))
  have hlc := large_cases h1 h2 mode neg
  have hft := ft_bounds id
  have hsg := Lib.hid fun (hk : fK id ≠ 4) w => fo_sign (fK id) (fW id) (fM id) (fB id) (fT id) (fI id) (fN id) w (by omega) (by omega) hk
  have hor := Lib.hid fun (hi : fI id < 2 ^ ((fW id).toNat - 1)) => pat_or (fI id) ((fW id).toNat - 1) (by omega) (by omega) hi
  clear h1 h2 h4 he hmf hmR hbn w1 w2 hft
  rcases hlc with ⟨a1, hv⟩ | ⟨a1, a2, hv⟩ | ⟨a1, a2, a3, hv⟩ | ⟨a1, a2, a3, a4, hv⟩ | ⟨a1, a2, a3, a4, rfl, hv⟩ | ⟨a1, a2, a3, a4, rfl, a5, a6, hv⟩
  case inr.inr.inr.inr.inr =>
    rw [hv]
    clear hv
    have hsg' := Lib.hid (hsg.out a5)
    have hor' := Lib.hid (hor.out a6)
    clear hsg hor
    replace a5 := Lib.hid a5
    replace a6 := Lib.hid a6
    go_enter Tryz.func65, Tryz.ntmps65
    go_wp2_with fail
    refine (hmo.out _ (hW.below hL.below)).mono ?_
    rintro e u1 ⟨rfl, hb1⟩
    replace hL := hL.go hb1
    go_wp2_with fail
    refine (hpt.out _ (hW.below hL.below)).mono ?_
    rintro e u2 ⟨rfl, hb2⟩
    replace hL := hL.go hb2
    have hq := hL.get (P := pBlk w.heap.size #[.int .i64 (fK id), .int .i64 (fW id), .int .i64 (fM id), .int .i64 (fB id), .int .u64 (fT id), .int .u64 (fI id), .int .u64 (fN id)] 25) (by repeat (first | exact List.mem_cons_self | apply List.mem_cons_of_mem))
    have q0 := hq.cell 0 _ rfl
    have q1 := hq.cell 1 _ rfl
    have q2 := hq.cell 2 _ rfl
    have q3 := hq.cell 3 _ rfl
    have q4 := hq.cell 4 _ rfl
    have q5 := hq.cell 5 _ rfl
    have q6 := hq.cell 6 _ rfl
    have hzl : w.heap.size < u2.heap.size := by
      have := hq
      unfold pBlk at this
      exact (Array.getElem?_eq_some_iff.1 this).1
    go_wp2_with fail
    have k0 := fun (u : Later u2.heap.size u2) => u.cell w.heap.size 0 _ hzl q0
    have k1 := fun (u : Later u2.heap.size u2) => u.cell w.heap.size 1 _ hzl q1
    have k2 := fun (u : Later u2.heap.size u2) => u.cell w.heap.size 2 _ hzl q2
    have k3 := fun (u : Later u2.heap.size u2) => u.cell w.heap.size 3 _ hzl q3
    have k4 := fun (u : Later u2.heap.size u2) => u.cell w.heap.size 4 _ hzl q4
    have k5 := fun (u : Later u2.heap.size u2) => u.cell w.heap.size 5 _ hzl q5
    have k6 := fun (u : Later u2.heap.size u2) => u.cell w.heap.size 6 _ hzl q6
    refine wp_region_later (B := u2.heap.size) (by kernel_rfl) (by kernel_rfl) (Below.refl _ _) ?_
    repeat (go_big_quiet_step ((go_at_call 92; exact Calls.later_of (Nat.le_refl _) (hsg'.out _))))
    refine wpQuiet_nil ?_
    intro w2 hb3
    go_wp2
    rw [hor'.out]
    go_ret
    exact ⟨rfl, hL.below.trans (hb3.mono hL.below.size)⟩
  all_goals
    rw [hv]
    clear hv
    go_enter Tryz.func65, Tryz.ntmps65
    go_wp2_with fail
    refine (hmo.out _ (hW.below hL.below)).mono ?_
    rintro e u1 ⟨rfl, hb1⟩
    replace hL := hL.go hb1
    go_wp2_with fail
    refine (hpt.out _ (hW.below hL.below)).mono ?_
    rintro e u2 ⟨rfl, hb2⟩
    replace hL := hL.go hb2
    have hq := hL.get (P := pBlk w.heap.size #[.int .i64 (fK id), .int .i64 (fW id), .int .i64 (fM id), .int .i64 (fB id), .int .u64 (fT id), .int .u64 (fI id), .int .u64 (fN id)] 25) (by repeat (first | exact List.mem_cons_self | apply List.mem_cons_of_mem))
    have q0 := hq.cell 0 _ rfl
    have q1 := hq.cell 1 _ rfl
    have q2 := hq.cell 2 _ rfl
    have q3 := hq.cell 3 _ rfl
    have q4 := hq.cell 4 _ rfl
    have q5 := hq.cell 5 _ rfl
    have q6 := hq.cell 6 _ rfl
    go_wp2
    go_ret
    exact ⟨rfl, hL.below⟩
end Go.Proofs.YtehpneojiinmdaaGreatDoor
namespace Go.Proofs.YtehpneojiinmdaaGreatDoor
open Go.RowKit Go.Cal
/-- What Round tells. -/
def roundR (id mode : Int) (neg : Bool) (P Q : Nat) : Int := if roundE id mode = 0 then roundP id mode neg P Q else 0
theorem round_cases (id mode : Int) (neg : Bool) (P Q N : Nat) (hP : P = 0 ↔ N = 0) :
    ((id < 1 ∨ 15 ≤ id) ∧ roundE id mode = 3 ∧ roundR id mode neg P Q = 0) ∨ (1 ≤ id ∧ id < 15 ∧
      (((mode != 1) = true ∧ (mode != 2) = true ∧ roundE id mode = 1 ∧ roundR id mode neg P Q = 0) ∨
       ((((mode != 1) = false) ∨ ((mode != 1) = true ∧ (mode != 2) = false)) ∧ roundE id mode = 0 ∧
         (((fK id == 4) = true ∧ neg = true ∧ roundR id mode neg P Q = fN id) ∨ ((fK id == 4) = true ∧ neg = false ∧ decide (N = 0) = true ∧ roundR id mode neg P Q = fN id) ∨
          ((((fK id == 4) = true ∧ neg = false ∧ decide (N = 0) = false) ∨ (fK id == 4) = false) ∧ mostE id neg = 0 ∧
            ((overB id neg P Q = true ∧ roundR id mode neg P Q = largeV id mode neg) ∨ (overB id neg P Q = false ∧ nearV id neg P Q = (nearK id neg P Q : Nat) ∧ roundR id mode neg P Q = patV id neg (nearK id neg P Q : Nat)))))))) := by
  by_cases hid : id < 1 ∨ 15 ≤ id
  · have hE : roundE id mode = 3 := by unfold roundE; rw [if_pos hid]
    exact .inl ⟨hid, hE, by unfold roundR; rw [hE]; rfl⟩
  · right
    refine ⟨by omega, by omega, ?_⟩
    by_cases hm : mode ≠ 1 ∧ mode ≠ 2
    · left
      have hE : roundE id mode = 1 := by unfold roundE; rw [if_neg hid, if_pos hm]
      exact ⟨by simp [hm.1], by simp [hm.2], hE, by unfold roundR; rw [hE]; rfl⟩
    · right
      have hE : roundE id mode = 0 := by unfold roundE; rw [if_neg hid, if_neg hm]
      have hR : roundR id mode neg P Q = roundP id mode neg P Q := by unfold roundR; rw [if_pos hE]
      refine ⟨?_, hE, ?_⟩
      · by_cases h1 : mode = 1
        · left; simp [h1]
        · right
          refine ⟨by simp [h1], ?_⟩
          have : mode = 2 := Classical.byContradiction fun h => hm ⟨h1, h⟩
          simp [this]
      · rw [hR]
        unfold roundP
        by_cases h4 : fK id = 4 ∧ (neg = true ∨ P = 0)
        · rw [if_pos h4]
          have h4' : (fK id == 4) = true := by simp [h4.1]
          cases neg with
          | true => exact .inl ⟨h4', rfl, rfl⟩
          | false => exact .inr (.inl ⟨h4', rfl, decide_eq_true (hP.1 (by rcases h4.2 with h | h; exact absurd h (by decide); exact h)), rfl⟩)
        · rw [if_neg h4]
          right; right
          refine ⟨?_, ?_, ?_⟩
          · by_cases h : fK id = 4
            · left
              refine ⟨by simp [h], ?_, decide_eq_false fun h0 => h4 ⟨h, .inr (hP.2 h0)⟩⟩
              cases neg with
              | true => exact absurd ⟨h, .inl rfl⟩ h4
              | false => rfl
            · right; simp [h]
          · unfold mostE
            rw [if_neg hid, if_neg (fun h => h4 ⟨h.2, .inl h.1⟩)]
          · cases ho : overB id neg P Q with
            | true => left; exact ⟨rfl, by rw [if_pos rfl]⟩
            | false =>
              right
              refine ⟨rfl, ?_, by rw [if_neg (by decide)]⟩
              unfold nearV
              rw [ho, if_neg (by decide)]
theorem expP_zero (N : Nat) (t f : Int) : exP N t f = 0 ↔ N = 0 := by
  constructor
  · intro h0
    rcases Nat.eq_zero_or_pos N with h3 | h3
    · exact h3
    · have := exP_pos t f h3; omega
  · intro h0; rw [h0]; exact exP_zero t f
set_option maxRecDepth 100000 in
set_option maxHeartbeats 4000000 in
theorem rround_any (id mode : Int) (neg : Bool) {A : Option Addr} {n c N : Nat} (t f : Int) {w : World} (hW : VaW w) (h : IsT w (.slice A n c) 128 N) (ht : -5000 ≤ t ∧ t ≤ 5000) (hf : -5000 ≤ f ∧ f ≤ 5000) :
    Calls Tryz.prog 24 #[.int .i64 id, .int .i64 mode, .agg #[.bool neg, .slice A n c, .int .i64 t, .int .i64 f]] w fun e w' => e = .returned (.tuple #[.int .u64 (roundR id mode neg (exP N t f) (exQ t f)), .int .i64 (roundE id mode)]) ∧ Below w.heap.size w w' := by
  have hcs := round_cases id mode neg (exP N t f) (exQ t f) N (expP_zero N t f)
  have hnr := Lib.hid (fun (he : mostE id neg = 0) (W : World) (hW : VaW W) (hv : IsT W (.slice A n c) 128 N) => nearest_any id neg he t f hW hv ht hf)
  have hlg := Lib.hid (fun (he : mostE id neg = 0) (W : World) (hW : VaW W) => rlarge_any id mode neg he W hW)
  have hpt := Lib.hid (fun (he : mostE id neg = 0) (W : World) (hW : VaW W) => vpat_any id neg (nearK id neg (exP N t f) (exQ t f) : Nat) he (by omega) (nearK_le id neg _ _) W hW)
  have hrt := Lib.hid (fun (W : World) (hv : IsT W (.slice A n c) 128 N) => xright_yes neg t f hv ht hf)
  have hzr := Lib.hid (fun (W : World) (hv : IsT W (.slice A n c) 128 N) => rzero_any neg t f hv)
  generalize exP N t f = P at hcs hnr hpt ⊢
  generalize exQ t f = Q at hcs hnr hpt ⊢
  have hb0 := (Below.refl w.heap.size w).alloc (Nat.le_refl _) (.cells #[.bool neg, .slice A n c, .int .i64 t, .int .i64 f] 52)
  have hL := (((LiveP.start w).go hb0).put (pBlk_st _ _ _) (pBlk_made w #[.bool neg, .slice A n c, .int .i64 t, .int .i64 f] 52)).put (pT_st (.slice A n c) 128 N) (h.below hb0)
  clear h hb0
  rcases hcs with ⟨hid, hE, hR⟩ | ⟨h1, h2, hcs⟩
  · rw [hE, hR]
    have hfn := Lib.hid (fun w => fo_none id w hid)
    clear hid hE hR hnr hlg hpt hrt hzr
    go_enter Tryz.func24, Tryz.ntmps24
    go_wp2_with fail
    refine (hfn.out _).mono ?_
    rintro e u1 ⟨rfl, hb1⟩
    go_wp2
    go_ret2
    exact ⟨rfl, ((hL.go hb1).go ((Below.refl _ _).alloc (Nat.le_refl _) _)).below⟩
  · have hfo := Lib.hid (fun (W : World) (hW : VaW W) => fo_of id W hW.frm h1 h2)
    rcases hcs with ⟨m1, m2, hE, hR⟩ | ⟨hmd, hE, hcs⟩
    · rw [hE, hR]
      clear hE hR hnr hlg hpt hzr
      go_enter Tryz.func24, Tryz.ntmps24
      go_wp2_with fail
      refine (hfo.out _ (hW.below hL.below)).mono ?_
      rintro e u1 ⟨rfl, hb1⟩
      go_wp2
      go_ret2
      exact ⟨rfl, ((hL.go hb1).go ((Below.refl _ _).alloc (Nat.le_refl _) _)).below⟩
    · rw [hE]
      clear hE
      rcases hcs with ⟨k4, rfl, hR⟩ | ⟨k4, rfl, hz, hR⟩ | ⟨hk, hmo, hcs⟩
      · rw [hR]
        clear hR hnr hlg hpt hzr
        rcases hmd with m1 | ⟨m1, m2⟩
        all_goals
          go_enter Tryz.func24, Tryz.ntmps24
          go_wp2_with fail
          refine (hfo.out _ (hW.below hL.below)).mono ?_
          rintro e u1 ⟨rfl, hb1⟩
          replace hL := (hL.go hb1).go ((Below.refl _ _).alloc (Nat.le_refl _) (.cells #[.int .i64 (fK id), .int .i64 (fW id), .int .i64 (fM id), .int .i64 (fB id), .int .u64 (fT id), .int .u64 (fI id), .int .u64 (fN id)] 25))
          obtain ⟨r0, r1, r2, r3⟩ := cells4 (hL.get (P := pBlk w.heap.size #[.bool true, .slice A n c, .int .i64 t, .int .i64 f] 52) (by repeat (first | exact List.mem_cons_self | apply List.mem_cons_of_mem)))
          go_wp2_with fail
          refine (hrt.out _ (hL.get (P := pT (.slice A n c) 128 N) (by repeat (first | exact List.mem_cons_self | apply List.mem_cons_of_mem)))).mono ?_
          rintro e u2 ⟨rfl, hb2⟩
          have hq := pBlk_st _ _ _ _ _ (pBlk_made u1 #[.int .i64 (fK id), .int .i64 (fW id), .int .i64 (fM id), .int .i64 (fB id), .int .u64 (fT id), .int .u64 (fI id), .int .u64 (fN id)] 25) hb2
          replace hL := hL.go hb2
          clear r0 r1 r2 r3
          obtain ⟨r0, r1, r2, r3⟩ := cells4 (hL.get (P := pBlk w.heap.size #[.bool true, .slice A n c, .int .i64 t, .int .i64 f] 52) (by repeat (first | exact List.mem_cons_self | apply List.mem_cons_of_mem)))
          have q0 := hq.cell 0 _ rfl
          have q6 := hq.cell 6 _ rfl
          go_wp2
          go_ret2
          exact ⟨rfl, hL.below⟩
      · rw [hR]
        have hz' := Lib.hid hz
        clear hR hnr hlg hpt hz
        rcases hmd with m1 | ⟨m1, m2⟩
        all_goals
          skip
          go_enter Tryz.func24, Tryz.ntmps24
          go_wp2_with fail
          refine (hfo.out _ (hW.below hL.below)).mono ?_
          rintro e u1 ⟨rfl, hb1⟩
          replace hL := (hL.go hb1).go ((Below.refl _ _).alloc (Nat.le_refl _) (.cells #[.int .i64 (fK id), .int .i64 (fW id), .int .i64 (fM id), .int .i64 (fB id), .int .u64 (fT id), .int .u64 (fI id), .int .u64 (fN id)] 25))
          obtain ⟨r0, r1, r2, r3⟩ := cells4 (hL.get (P := pBlk w.heap.size #[.bool false, .slice A n c, .int .i64 t, .int .i64 f] 52) (by repeat (first | exact List.mem_cons_self | apply List.mem_cons_of_mem)))
          go_wp2_with fail
          refine (hrt.out _ (hL.get (P := pT (.slice A n c) 128 N) (by repeat (first | exact List.mem_cons_self | apply List.mem_cons_of_mem)))).mono ?_
          rintro e u2 ⟨rfl, hb2⟩
          have hq := pBlk_st _ _ _ _ _ (pBlk_made u1 #[.int .i64 (fK id), .int .i64 (fW id), .int .i64 (fM id), .int .i64 (fB id), .int .u64 (fT id), .int .u64 (fI id), .int .u64 (fN id)] 25) hb2
          replace hL := hL.go hb2
          clear r0 r1 r2 r3
          obtain ⟨r0, r1, r2, r3⟩ := cells4 (hL.get (P := pBlk w.heap.size #[.bool false, .slice A n c, .int .i64 t, .int .i64 f] 52) (by repeat (first | exact List.mem_cons_self | apply List.mem_cons_of_mem)))
          have q0 := hq.cell 0 _ rfl
          have q6 := hq.cell 6 _ rfl
          go_wp2_with fail
          refine (hzr.out _ (hL.get (P := pT (.slice A n c) 128 N) (by repeat (first | exact List.mem_cons_self | apply List.mem_cons_of_mem)))).mono ?_
          rintro e u3 ⟨rfl, hb3⟩
          rw [hz'.out]
          have hq3 := pBlk_st _ _ _ _ _ hq hb3
          replace hL := hL.go hb3
          clear r0 r1 r2 r3 q0 q6 hq
          have hq := hq3
          obtain ⟨r0, r1, r2, r3⟩ := cells4 (hL.get (P := pBlk w.heap.size #[.bool false, .slice A n c, .int .i64 t, .int .i64 f] 52) (by repeat (first | exact List.mem_cons_self | apply List.mem_cons_of_mem)))
          have q0 := hq.cell 0 _ rfl
          have q6 := hq.cell 6 _ rfl
          go_wp2
          go_ret2
          exact ⟨rfl, hL.below⟩
      · have hnr' := hnr.out hmo
        have hlg' := hlg.out hmo
        have hpt' := hpt.out hmo
        clear hnr hlg hpt hmo
        rcases hcs with ⟨ho, hR⟩ | ⟨ho, hn, hR⟩
        · rw [hR]
          rw [ho] at hnr'
          generalize nearV id neg P Q = nv at hnr'
          have hend := Lib.hid hlg'
          replace hnr' := Lib.hid hnr'
          clear hR ho hlg' hpt'
          rcases hk with ⟨k4, rfl, hz⟩ | k4
          · have hz' := Lib.hid hz
            clear hz
            rcases hmd with m1 | ⟨m1, m2⟩
            all_goals
              skip
              go_enter Tryz.func24, Tryz.ntmps24
              go_wp2_with fail
              refine (hfo.out _ (hW.below hL.below)).mono ?_
              rintro e u1 ⟨rfl, hb1⟩
              replace hL := (hL.go hb1).go ((Below.refl _ _).alloc (Nat.le_refl _) (.cells #[.int .i64 (fK id), .int .i64 (fW id), .int .i64 (fM id), .int .i64 (fB id), .int .u64 (fT id), .int .u64 (fI id), .int .u64 (fN id)] 25))
              obtain ⟨r0, r1, r2, r3⟩ := cells4 (hL.get (P := pBlk w.heap.size #[.bool false, .slice A n c, .int .i64 t, .int .i64 f] 52) (by repeat (first | exact List.mem_cons_self | apply List.mem_cons_of_mem)))
              go_wp2_with fail
              refine (hrt.out _ (hL.get (P := pT (.slice A n c) 128 N) (by repeat (first | exact List.mem_cons_self | apply List.mem_cons_of_mem)))).mono ?_
              rintro e u2 ⟨rfl, hb2⟩
              have hq := pBlk_st _ _ _ _ _ (pBlk_made u1 #[.int .i64 (fK id), .int .i64 (fW id), .int .i64 (fM id), .int .i64 (fB id), .int .u64 (fT id), .int .u64 (fI id), .int .u64 (fN id)] 25) hb2
              replace hL := hL.go hb2
              clear r0 r1 r2 r3
              obtain ⟨r0, r1, r2, r3⟩ := cells4 (hL.get (P := pBlk w.heap.size #[.bool false, .slice A n c, .int .i64 t, .int .i64 f] 52) (by repeat (first | exact List.mem_cons_self | apply List.mem_cons_of_mem)))
              have q0 := hq.cell 0 _ rfl
              have q6 := hq.cell 6 _ rfl
              go_wp2_with fail
              refine (hzr.out _ (hL.get (P := pT (.slice A n c) 128 N) (by repeat (first | exact List.mem_cons_self | apply List.mem_cons_of_mem)))).mono ?_
              rintro e u3 ⟨rfl, hb3⟩
              rw [hz'.out]
              have hq3 := pBlk_st _ _ _ _ _ hq hb3
              replace hL := hL.go hb3
              clear r0 r1 r2 r3 q0 q6 hq
              have hq := hq3
              obtain ⟨r0, r1, r2, r3⟩ := cells4 (hL.get (P := pBlk w.heap.size #[.bool false, .slice A n c, .int .i64 t, .int .i64 f] 52) (by repeat (first | exact List.mem_cons_self | apply List.mem_cons_of_mem)))
              have q0 := hq.cell 0 _ rfl
              have q6 := hq.cell 6 _ rfl
              go_wp2_with fail
              refine (hnr'.out _ (hW.below hL.below) (hL.get (P := pT (.slice A n c) 128 N) (by repeat (first | exact List.mem_cons_self | apply List.mem_cons_of_mem)))).mono ?_
              rintro e u4 ⟨rfl, hb4⟩
              replace hq := pBlk_st _ _ _ _ _ hq hb4
              replace hL := hL.go hb4
              clear r0 r1 r2 r3 q0 q6
              obtain ⟨r0, r1, r2, r3⟩ := cells4 (hL.get (P := pBlk w.heap.size #[.bool false, .slice A n c, .int .i64 t, .int .i64 f] 52) (by repeat (first | exact List.mem_cons_self | apply List.mem_cons_of_mem)))
              have q0 := hq.cell 0 _ rfl
              have q1 := hq.cell 1 _ rfl
              have q2 := hq.cell 2 _ rfl
              have q3 := hq.cell 3 _ rfl
              have q4 := hq.cell 4 _ rfl
              have q5 := hq.cell 5 _ rfl
              have q6 := hq.cell 6 _ rfl
              go_wp2_with fail
              refine (hend.out _ (hW.below hL.below)).mono ?_
              rintro e u5 ⟨rfl, hb5⟩
              go_wp2
              go_ret2
              exact ⟨rfl, (hL.go hb5).below⟩
          · rcases hmd with m1 | ⟨m1, m2⟩
            all_goals
              skip
              go_enter Tryz.func24, Tryz.ntmps24
              go_wp2_with fail
              refine (hfo.out _ (hW.below hL.below)).mono ?_
              rintro e u1 ⟨rfl, hb1⟩
              replace hL := (hL.go hb1).go ((Below.refl _ _).alloc (Nat.le_refl _) (.cells #[.int .i64 (fK id), .int .i64 (fW id), .int .i64 (fM id), .int .i64 (fB id), .int .u64 (fT id), .int .u64 (fI id), .int .u64 (fN id)] 25))
              obtain ⟨r0, r1, r2, r3⟩ := cells4 (hL.get (P := pBlk w.heap.size #[.bool neg, .slice A n c, .int .i64 t, .int .i64 f] 52) (by repeat (first | exact List.mem_cons_self | apply List.mem_cons_of_mem)))
              go_wp2_with fail
              refine (hrt.out _ (hL.get (P := pT (.slice A n c) 128 N) (by repeat (first | exact List.mem_cons_self | apply List.mem_cons_of_mem)))).mono ?_
              rintro e u2 ⟨rfl, hb2⟩
              have hq := pBlk_st _ _ _ _ _ (pBlk_made u1 #[.int .i64 (fK id), .int .i64 (fW id), .int .i64 (fM id), .int .i64 (fB id), .int .u64 (fT id), .int .u64 (fI id), .int .u64 (fN id)] 25) hb2
              replace hL := hL.go hb2
              clear r0 r1 r2 r3
              obtain ⟨r0, r1, r2, r3⟩ := cells4 (hL.get (P := pBlk w.heap.size #[.bool neg, .slice A n c, .int .i64 t, .int .i64 f] 52) (by repeat (first | exact List.mem_cons_self | apply List.mem_cons_of_mem)))
              have q0 := hq.cell 0 _ rfl
              have q6 := hq.cell 6 _ rfl
              go_wp2_with fail
              refine (hnr'.out _ (hW.below hL.below) (hL.get (P := pT (.slice A n c) 128 N) (by repeat (first | exact List.mem_cons_self | apply List.mem_cons_of_mem)))).mono ?_
              rintro e u4 ⟨rfl, hb4⟩
              replace hq := pBlk_st _ _ _ _ _ hq hb4
              replace hL := hL.go hb4
              clear r0 r1 r2 r3 q0 q6
              obtain ⟨r0, r1, r2, r3⟩ := cells4 (hL.get (P := pBlk w.heap.size #[.bool neg, .slice A n c, .int .i64 t, .int .i64 f] 52) (by repeat (first | exact List.mem_cons_self | apply List.mem_cons_of_mem)))
              have q0 := hq.cell 0 _ rfl
              have q1 := hq.cell 1 _ rfl
              have q2 := hq.cell 2 _ rfl
              have q3 := hq.cell 3 _ rfl
              have q4 := hq.cell 4 _ rfl
              have q5 := hq.cell 5 _ rfl
              have q6 := hq.cell 6 _ rfl
              go_wp2_with fail
              refine (hend.out _ (hW.below hL.below)).mono ?_
              rintro e u5 ⟨rfl, hb5⟩
              go_wp2
              go_ret2
              exact ⟨rfl, (hL.go hb5).below⟩
        · rw [hR]
          rw [ho, hn] at hnr'
          generalize ((nearK id neg P Q : Nat) : Int) = nv at hnr' hpt' ⊢
          have hend := Lib.hid hpt'
          replace hnr' := Lib.hid hnr'
          clear hR ho hn hlg' hpt'
          rcases hk with ⟨k4, rfl, hz⟩ | k4
          · have hz' := Lib.hid hz
            clear hz
            rcases hmd with m1 | ⟨m1, m2⟩
            all_goals
              skip
              go_enter Tryz.func24, Tryz.ntmps24
              go_wp2_with fail
              refine (hfo.out _ (hW.below hL.below)).mono ?_
              rintro e u1 ⟨rfl, hb1⟩
              replace hL := (hL.go hb1).go ((Below.refl _ _).alloc (Nat.le_refl _) (.cells #[.int .i64 (fK id), .int .i64 (fW id), .int .i64 (fM id), .int .i64 (fB id), .int .u64 (fT id), .int .u64 (fI id), .int .u64 (fN id)] 25))
              obtain ⟨r0, r1, r2, r3⟩ := cells4 (hL.get (P := pBlk w.heap.size #[.bool false, .slice A n c, .int .i64 t, .int .i64 f] 52) (by repeat (first | exact List.mem_cons_self | apply List.mem_cons_of_mem)))
              go_wp2_with fail
              refine (hrt.out _ (hL.get (P := pT (.slice A n c) 128 N) (by repeat (first | exact List.mem_cons_self | apply List.mem_cons_of_mem)))).mono ?_
              rintro e u2 ⟨rfl, hb2⟩
              have hq := pBlk_st _ _ _ _ _ (pBlk_made u1 #[.int .i64 (fK id), .int .i64 (fW id), .int .i64 (fM id), .int .i64 (fB id), .int .u64 (fT id), .int .u64 (fI id), .int .u64 (fN id)] 25) hb2
              replace hL := hL.go hb2
              clear r0 r1 r2 r3
              obtain ⟨r0, r1, r2, r3⟩ := cells4 (hL.get (P := pBlk w.heap.size #[.bool false, .slice A n c, .int .i64 t, .int .i64 f] 52) (by repeat (first | exact List.mem_cons_self | apply List.mem_cons_of_mem)))
              have q0 := hq.cell 0 _ rfl
              have q6 := hq.cell 6 _ rfl
              go_wp2_with fail
              refine (hzr.out _ (hL.get (P := pT (.slice A n c) 128 N) (by repeat (first | exact List.mem_cons_self | apply List.mem_cons_of_mem)))).mono ?_
              rintro e u3 ⟨rfl, hb3⟩
              rw [hz'.out]
              have hq3 := pBlk_st _ _ _ _ _ hq hb3
              replace hL := hL.go hb3
              clear r0 r1 r2 r3 q0 q6 hq
              have hq := hq3
              obtain ⟨r0, r1, r2, r3⟩ := cells4 (hL.get (P := pBlk w.heap.size #[.bool false, .slice A n c, .int .i64 t, .int .i64 f] 52) (by repeat (first | exact List.mem_cons_self | apply List.mem_cons_of_mem)))
              have q0 := hq.cell 0 _ rfl
              have q6 := hq.cell 6 _ rfl
              go_wp2_with fail
              refine (hnr'.out _ (hW.below hL.below) (hL.get (P := pT (.slice A n c) 128 N) (by repeat (first | exact List.mem_cons_self | apply List.mem_cons_of_mem)))).mono ?_
              rintro e u4 ⟨rfl, hb4⟩
              replace hq := pBlk_st _ _ _ _ _ hq hb4
              replace hL := hL.go hb4
              clear r0 r1 r2 r3 q0 q6
              obtain ⟨r0, r1, r2, r3⟩ := cells4 (hL.get (P := pBlk w.heap.size #[.bool false, .slice A n c, .int .i64 t, .int .i64 f] 52) (by repeat (first | exact List.mem_cons_self | apply List.mem_cons_of_mem)))
              have q0 := hq.cell 0 _ rfl
              have q1 := hq.cell 1 _ rfl
              have q2 := hq.cell 2 _ rfl
              have q3 := hq.cell 3 _ rfl
              have q4 := hq.cell 4 _ rfl
              have q5 := hq.cell 5 _ rfl
              have q6 := hq.cell 6 _ rfl
              go_wp2_with fail
              refine (hend.out _ (hW.below hL.below)).mono ?_
              rintro e u5 ⟨rfl, hb5⟩
              go_wp2
              go_ret2
              exact ⟨rfl, (hL.go hb5).below⟩
          · rcases hmd with m1 | ⟨m1, m2⟩
            all_goals
              skip
              go_enter Tryz.func24, Tryz.ntmps24
              go_wp2_with fail
              refine (hfo.out _ (hW.below hL.below)).mono ?_
              rintro e u1 ⟨rfl, hb1⟩
              replace hL := (hL.go hb1).go ((Below.refl _ _).alloc (Nat.le_refl _) (.cells #[.int .i64 (fK id), .int .i64 (fW id), .int .i64 (fM id), .int .i64 (fB id), .int .u64 (fT id), .int .u64 (fI id), .int .u64 (fN id)] 25))
              obtain ⟨r0, r1, r2, r3⟩ := cells4 (hL.get (P := pBlk w.heap.size #[.bool neg, .slice A n c, .int .i64 t, .int .i64 f] 52) (by repeat (first | exact List.mem_cons_self | apply List.mem_cons_of_mem)))
              go_wp2_with fail
              refine (hrt.out _ (hL.get (P := pT (.slice A n c) 128 N) (by repeat (first | exact List.mem_cons_self | apply List.mem_cons_of_mem)))).mono ?_
              rintro e u2 ⟨rfl, hb2⟩
              have hq := pBlk_st _ _ _ _ _ (pBlk_made u1 #[.int .i64 (fK id), .int .i64 (fW id), .int .i64 (fM id), .int .i64 (fB id), .int .u64 (fT id), .int .u64 (fI id), .int .u64 (fN id)] 25) hb2
              replace hL := hL.go hb2
              clear r0 r1 r2 r3
              obtain ⟨r0, r1, r2, r3⟩ := cells4 (hL.get (P := pBlk w.heap.size #[.bool neg, .slice A n c, .int .i64 t, .int .i64 f] 52) (by repeat (first | exact List.mem_cons_self | apply List.mem_cons_of_mem)))
              have q0 := hq.cell 0 _ rfl
              have q6 := hq.cell 6 _ rfl
              go_wp2_with fail
              refine (hnr'.out _ (hW.below hL.below) (hL.get (P := pT (.slice A n c) 128 N) (by repeat (first | exact List.mem_cons_self | apply List.mem_cons_of_mem)))).mono ?_
              rintro e u4 ⟨rfl, hb4⟩
              replace hq := pBlk_st _ _ _ _ _ hq hb4
              replace hL := hL.go hb4
              clear r0 r1 r2 r3 q0 q6
              obtain ⟨r0, r1, r2, r3⟩ := cells4 (hL.get (P := pBlk w.heap.size #[.bool neg, .slice A n c, .int .i64 t, .int .i64 f] 52) (by repeat (first | exact List.mem_cons_self | apply List.mem_cons_of_mem)))
              have q0 := hq.cell 0 _ rfl
              have q1 := hq.cell 1 _ rfl
              have q2 := hq.cell 2 _ rfl
              have q3 := hq.cell 3 _ rfl
              have q4 := hq.cell 4 _ rfl
              have q5 := hq.cell 5 _ rfl
              have q6 := hq.cell 6 _ rfl
              go_wp2_with fail
              refine (hend.out _ (hW.below hL.below)).mono ?_
              rintro e u5 ⟨rfl, hb5⟩
              go_wp2
              go_ret2
              exact ⟨rfl, (hL.go hb5).below⟩
end Go.Proofs.YtehpneojiinmdaaGreatDoor
