/- The walks of four statements of the forms layer: each tells true. Condition: the table of the forms stands in block 0. -/
import Derived.Test.YtmkhmmdomnhacaaDoorForm4
namespace Go.Proofs.YtmkhmmdomnhacaaDoor
open Go.RowKit Go.Cal
theorem canonV_bounds {id p : Int} (h0 : 0 ≤ p) (h1 : p < 18446744073709551616) : 0 ≤ canonV id p ∧ canonV id p < 18446744073709551616 := by
  obtain ⟨-, -, -, -, -, h2, -, -, h3⟩ := ft_bounds id
  unfold canonV
  split
  · split <;> omega
  · omega
theorem canon_fits {id p : Int} (h : fitsV id p = 0) : fitsV id (canonV id p) = 0 := by
  obtain ⟨h1, h2, hlt⟩ := fitsV_zero h
  unfold canonV
  rw [if_pos h]
  split
  · exact h
  · rcases id_cases h1 h2 with rfl | rfl | rfl | rfl | rfl | rfl | rfl | rfl | rfl | rfl | rfl | rfl | rfl | rfl <;> decide +kernel
theorem canon_twice {id p : Int} (h : fitsV id p = 0) : canonV id (canonV id p) = canonV id p := by
  have h3 := canon_fits h
  unfold canonV at *
  rw [if_pos h] at *
  rw [if_pos h3]
  split
  · simp
  · split <;> rfl
set_option maxHeartbeats 400000 in
theorem formCanon_any (id p : Int) (w : World) (hT : TabF w) (hp0 : 0 ≤ p) (hp1 : p < 18446744073709551616) :
    Calls Tryd.prog 4 #[.int .i64 id, .int .u64 p] w fun e w' => e = .returned (.bool true) ∧ Below w.heap.size w w' := by
  go_enter Tryd.func4, Tryd.ntmps4
  go_wp2_with fail
  refine (shown_any _ hT).mono ?_
  rintro e w1 ⟨rfl, hb1⟩; have hz1 := hb1.size; (try simp at hz1); (try replace hz1 := Nat.lt_of_succ_le hz1); obtain ⟨hc1, hf1⟩ := bcell hb1
  have hT1 := hT.below hb1
  go_wp2_with fail
  refine (canon_any _ _ _ hT1 hp0 hp1).mono ?_
  rintro e w2 ⟨rfl, hb2⟩; have hz2 := hb2.size; (try simp at hz2); (try replace hz2 := Nat.lt_of_succ_le hz2); obtain ⟨hc2, hf2⟩ := bcell hb2
  have hT2 := hT1.below hb2
  go_wp2_with fail
  refine (rcanon_any _ _ _ hp0 hp1).mono ?_
  rintro e w3 ⟨rfl, hb3⟩; have hz3 := hb3.size; (try simp at hz3); (try replace hz3 := Nat.lt_of_succ_le hz3); obtain ⟨hc3, hf3⟩ := bcell hb3
  have hT3 := hT2.below hb3
  go_wp2_with fail
  refine (fits_any _ _ _ hT3 hp0 hp1).mono ?_
  rintro e w4 ⟨rfl, hb4⟩; have hz4 := hb4.size; (try simp at hz4); (try replace hz4 := Nat.lt_of_succ_le hz4); obtain ⟨hc4, hf4⟩ := bcell hb4
  go_wp2_with fail
  refine (rfits_any _ _ _).mono ?_
  rintro e w5 ⟨rfl, hb5⟩; have hz5 := hb5.size; (try simp at hz5); (try replace hz5 := Nat.lt_of_succ_le hz5); obtain ⟨hc5, hf5⟩ := bcell hb5
  go_wp2
  go_ret
  exact ⟨by simp, chain (chain (chain (chain hb1 hb2) hb3) hb4) hb5⟩
set_option maxHeartbeats 400000 in
theorem formTwice_any (id p : Int) (w : World) (hT : TabF w) (hp0 : 0 ≤ p) (hp1 : p < 18446744073709551616) :
    Calls Tryd.prog 5 #[.int .i64 id, .int .u64 p] w fun e w' => e = .returned (.bool true) ∧ Below w.heap.size w w' := by
  obtain ⟨hq0, hq1⟩ := canonV_bounds (id := id) hp0 hp1
  by_cases hf0 : fitsV id p = 0
  · have hff : (fitsV id p != 0) = false := by simp [hf0]
    have h2 := canon_twice hf0
    have h3 := canon_fits hf0
    clear hf0
    go_enter Tryd.func5, Tryd.ntmps5
    go_wp2_with fail
    refine (shown_any _ hT).mono ?_
    rintro e w1 ⟨rfl, hb1⟩; have hz1 := hb1.size; (try simp at hz1); (try replace hz1 := Nat.lt_of_succ_le hz1); obtain ⟨hc1, hf1⟩ := bcell hb1
    have hT1 := hT.below hb1
    go_wp2_with fail
    refine (canon_any _ _ _ hT1 hp0 hp1).mono ?_
    rintro e w2 ⟨rfl, hb2⟩; have hz2 := hb2.size; (try simp at hz2); (try replace hz2 := Nat.lt_of_succ_le hz2); obtain ⟨hc2, hf2⟩ := bcell hb2
    have hT2 := hT1.below hb2
    go_wp2_with fail
    refine (canon_any _ _ _ hT2 hq0 hq1).mono ?_
    rintro e w3 ⟨rfl, hb3⟩; have hz3 := hb3.size; (try simp at hz3); (try replace hz3 := Nat.lt_of_succ_le hz3); obtain ⟨hc3, hf3⟩ := bcell hb3
    have hT3 := hT2.below hb3
    go_wp2_with fail
    refine (fits_any _ _ _ hT3 hq0 hq1).mono ?_
    rintro e w4 ⟨rfl, hb4⟩; have hz4 := hb4.size; (try simp at hz4); (try replace hz4 := Nat.lt_of_succ_le hz4); obtain ⟨hc4, hf4⟩ := bcell hb4
    go_wp2
    go_ret
    exact ⟨by simp, chain (chain (chain hb1 hb2) hb3) hb4⟩
  · have hff : (fitsV id p != 0) = true := by simp [hf0]
    have h2 : canonV id p = 0 := by unfold canonV; rw [if_neg hf0]
    clear hf0
    go_enter Tryd.func5, Tryd.ntmps5
    go_wp2_with fail
    refine (shown_any _ hT).mono ?_
    rintro e w1 ⟨rfl, hb1⟩; have hz1 := hb1.size; (try simp at hz1); (try replace hz1 := Nat.lt_of_succ_le hz1); obtain ⟨hc1, hf1⟩ := bcell hb1
    have hT1 := hT.below hb1
    go_wp2_with fail
    refine (canon_any _ _ _ hT1 hp0 hp1).mono ?_
    rintro e w2 ⟨rfl, hb2⟩; have hz2 := hb2.size; (try simp at hz2); (try replace hz2 := Nat.lt_of_succ_le hz2); obtain ⟨hc2, hf2⟩ := bcell hb2
    have hT2 := hT1.below hb2
    go_wp2_with fail
    refine (canon_any _ _ _ hT2 (by omega) (by omega)).mono ?_
    rintro e w3 ⟨rfl, hb3⟩; have hz3 := hb3.size; (try simp at hz3); (try replace hz3 := Nat.lt_of_succ_le hz3); obtain ⟨hc3, hf3⟩ := bcell hb3
    have hT3 := hT2.below hb3
    go_wp2_with fail
    refine (fits_any _ _ _ hT3 hp0 hp1).mono ?_
    rintro e w4 ⟨rfl, hb4⟩; have hz4 := hb4.size; (try simp at hz4); (try replace hz4 := Nat.lt_of_succ_le hz4); obtain ⟨hc4, hf4⟩ := bcell hb4
    go_wp2
    go_ret
    exact ⟨by simp, chain (chain (chain hb1 hb2) hb3) hb4⟩
set_option maxHeartbeats 400000 in
theorem formTells_no (id : Int) (w : World) (hT : TabF w) (h : id < 1 ∨ 15 ≤ id) :
    Calls Tryd.prog 3 #[.int .i64 id] w fun e w' => e = .returned (.bool true) ∧ Below w.heap.size w w' := by
  go_enter Tryd.func3, Tryd.ntmps3
  go_wp2_with fail
  refine (shown_any _ hT).mono ?_
  rintro e w1 ⟨rfl, hb1⟩; have hz1 := hb1.size; (try simp at hz1); (try replace hz1 := Nat.lt_of_succ_le hz1); obtain ⟨hc1, hf1⟩ := bcell hb1
  go_wp2_with fail
  refine (of_no _ _ h).mono ?_
  rintro e w2 ⟨rfl, hb2⟩; have hz2 := hb2.size; (try simp at hz2); (try replace hz2 := Nat.lt_of_succ_le hz2); obtain ⟨hc2, hf2⟩ := bcell hb2
  go_wp2_with fail
  refine (rof_no _ _ h).mono ?_
  rintro e w3 ⟨rfl, hb3⟩; have hz3 := hb3.size; (try simp at hz3); (try replace hz3 := Nat.lt_of_succ_le hz3); obtain ⟨hc3, hf3⟩ := bcell hb3
  go_wp2
  go_ret
  exact ⟨by simp, chainA (chain (chainA (chain hb1 hb2) _) hb3) _⟩
set_option maxHeartbeats 1000000 in
theorem formTells_yes (id s : Int) (w : World) (hT : TabF w) (h1 : 1 ≤ id) (h2 : id < 15)
    (hs1 : ∀ w, Calls Tryd.prog 13 #[.agg #[.int .i64 (fK id), .int .i64 (fW id), .int .i64 (fM id), .int .i64 (fB id), .int .u64 (fT id), .int .u64 (fI id), .int .u64 (fN id)]] w fun e w' => e = .returned (.int .u64 s) ∧ Below w.heap.size w w')
    (hs2 : ∀ w, Calls Tryd.prog 14 #[.agg #[.int .i64 (fK id), .int .i64 (fW id), .int .i64 (fM id), .int .i64 (fB id), .int .u64 (fT id), .int .u64 (fI id), .int .u64 (fN id)]] w fun e w' => e = .returned (.int .u64 s) ∧ Below w.heap.size w w') :
    Calls Tryd.prog 3 #[.int .i64 id] w fun e w' => e = .returned (.bool true) ∧ Below w.heap.size w w' := by
  obtain ⟨hw0, hw1, -⟩ := ft_bounds id
  replace hs1 := Lib.hid hs1
  replace hs2 := Lib.hid hs2
  go_enter Tryd.func3, Tryd.ntmps3
  go_wp2_with fail
  refine (shown_any _ hT).mono ?_
  rintro e w1 ⟨rfl, hb1⟩; have hz1 := hb1.size; (try simp at hz1); (try replace hz1 := Nat.lt_of_succ_le hz1); obtain ⟨hc1, hf1⟩ := bcell hb1
  have hT1 := hT.below hb1
  go_wp2_with fail
  refine (of_yes _ _ hT1 h1 h2).mono ?_
  rintro e w2 ⟨rfl, hb2⟩; have hz2 := hb2.size; (try simp at hz2); (try replace hz2 := Nat.lt_of_succ_le hz2); obtain ⟨hc2, hf2⟩ := bcell hb2
  go_wp2_with fail
  refine (rof_yes _ _ h1 h2).mono ?_
  rintro e w3 ⟨rfl, hb3⟩; have hz3 := hb3.size; (try simp at hz3); (try replace hz3 := Nat.lt_of_succ_le hz3); obtain ⟨hc3, hf3⟩ := bcell hb3
  go_wp2
  have hz3' : w2.heap.size < w3.heap.size + 1 := by omega
  have c0 := fun (u : Later (w3.heap.size + 1) (w3.alloc (.cells #[.int .i64 (fK id), .int .i64 (fW id), .int .i64 (fM id), .int .i64 (fB id), .int .u64 (fT id), .int .u64 (fI id), .int .u64 (fN id)] 29))) => u.cell w2.heap.size 0 (.int .i64 (fK id)) hz3' (by simp [go_sem, hc3, hz3])
  have d0 := fun (u : Later (w3.heap.size + 1) (w3.alloc (.cells #[.int .i64 (fK id), .int .i64 (fW id), .int .i64 (fM id), .int .i64 (fB id), .int .u64 (fT id), .int .u64 (fI id), .int .u64 (fN id)] 29))) => u.cell w3.heap.size 0 (.int .i64 (fK id)) (by omega) (by simp)
  have c1 := fun (u : Later (w3.heap.size + 1) (w3.alloc (.cells #[.int .i64 (fK id), .int .i64 (fW id), .int .i64 (fM id), .int .i64 (fB id), .int .u64 (fT id), .int .u64 (fI id), .int .u64 (fN id)] 29))) => u.cell w2.heap.size 1 (.int .i64 (fW id)) hz3' (by simp [go_sem, hc3, hz3])
  have d1 := fun (u : Later (w3.heap.size + 1) (w3.alloc (.cells #[.int .i64 (fK id), .int .i64 (fW id), .int .i64 (fM id), .int .i64 (fB id), .int .u64 (fT id), .int .u64 (fI id), .int .u64 (fN id)] 29))) => u.cell w3.heap.size 1 (.int .i64 (fW id)) (by omega) (by simp)
  have c2 := fun (u : Later (w3.heap.size + 1) (w3.alloc (.cells #[.int .i64 (fK id), .int .i64 (fW id), .int .i64 (fM id), .int .i64 (fB id), .int .u64 (fT id), .int .u64 (fI id), .int .u64 (fN id)] 29))) => u.cell w2.heap.size 2 (.int .i64 (fM id)) hz3' (by simp [go_sem, hc3, hz3])
  have d2 := fun (u : Later (w3.heap.size + 1) (w3.alloc (.cells #[.int .i64 (fK id), .int .i64 (fW id), .int .i64 (fM id), .int .i64 (fB id), .int .u64 (fT id), .int .u64 (fI id), .int .u64 (fN id)] 29))) => u.cell w3.heap.size 2 (.int .i64 (fM id)) (by omega) (by simp)
  have c3 := fun (u : Later (w3.heap.size + 1) (w3.alloc (.cells #[.int .i64 (fK id), .int .i64 (fW id), .int .i64 (fM id), .int .i64 (fB id), .int .u64 (fT id), .int .u64 (fI id), .int .u64 (fN id)] 29))) => u.cell w2.heap.size 3 (.int .i64 (fB id)) hz3' (by simp [go_sem, hc3, hz3])
  have d3 := fun (u : Later (w3.heap.size + 1) (w3.alloc (.cells #[.int .i64 (fK id), .int .i64 (fW id), .int .i64 (fM id), .int .i64 (fB id), .int .u64 (fT id), .int .u64 (fI id), .int .u64 (fN id)] 29))) => u.cell w3.heap.size 3 (.int .i64 (fB id)) (by omega) (by simp)
  have c4 := fun (u : Later (w3.heap.size + 1) (w3.alloc (.cells #[.int .i64 (fK id), .int .i64 (fW id), .int .i64 (fM id), .int .i64 (fB id), .int .u64 (fT id), .int .u64 (fI id), .int .u64 (fN id)] 29))) => u.cell w2.heap.size 4 (.int .u64 (fT id)) hz3' (by simp [go_sem, hc3, hz3])
  have d4 := fun (u : Later (w3.heap.size + 1) (w3.alloc (.cells #[.int .i64 (fK id), .int .i64 (fW id), .int .i64 (fM id), .int .i64 (fB id), .int .u64 (fT id), .int .u64 (fI id), .int .u64 (fN id)] 29))) => u.cell w3.heap.size 4 (.int .u64 (fT id)) (by omega) (by simp)
  have c5 := fun (u : Later (w3.heap.size + 1) (w3.alloc (.cells #[.int .i64 (fK id), .int .i64 (fW id), .int .i64 (fM id), .int .i64 (fB id), .int .u64 (fT id), .int .u64 (fI id), .int .u64 (fN id)] 29))) => u.cell w2.heap.size 5 (.int .u64 (fI id)) hz3' (by simp [go_sem, hc3, hz3])
  have d5 := fun (u : Later (w3.heap.size + 1) (w3.alloc (.cells #[.int .i64 (fK id), .int .i64 (fW id), .int .i64 (fM id), .int .i64 (fB id), .int .u64 (fT id), .int .u64 (fI id), .int .u64 (fN id)] 29))) => u.cell w3.heap.size 5 (.int .u64 (fI id)) (by omega) (by simp)
  have c6 := fun (u : Later (w3.heap.size + 1) (w3.alloc (.cells #[.int .i64 (fK id), .int .i64 (fW id), .int .i64 (fM id), .int .i64 (fB id), .int .u64 (fT id), .int .u64 (fI id), .int .u64 (fN id)] 29))) => u.cell w2.heap.size 6 (.int .u64 (fN id)) hz3' (by simp [go_sem, hc3, hz3])
  have d6 := fun (u : Later (w3.heap.size + 1) (w3.alloc (.cells #[.int .i64 (fK id), .int .i64 (fW id), .int .i64 (fM id), .int .i64 (fB id), .int .u64 (fT id), .int .u64 (fI id), .int .u64 (fN id)] 29))) => u.cell w3.heap.size 6 (.int .u64 (fN id)) (by omega) (by simp)
  refine wp_region_later (B := w3.heap.size + 1) (by kernel_rfl) (by kernel_rfl) (Below.refl _ _) ?_
  repeat (go_big_quiet_step ((first | (go_at_call 11; exact Calls.later_of (by simp) (mask_any _ _ _ _ _ _ _ _ hw0 hw1)) | (go_at_call 12; exact Calls.later_of (by simp) (rmask_any _ _ _ _ _ _ _ _ hw0 hw1)) | (go_at_call 13; exact Calls.later_of (by simp) (hs1.out _)) | (go_at_call 14; exact Calls.later_of (by simp) (hs2.out _)))))
  refine wpQuiet_nil ?_
  intro w4 hb4
  go_wp2
  go_ret
  exact ⟨by simp, (chainA (chain (chainA (chain hb1 hb2) _) hb3) _).trans (hb4.mono (by omega))⟩
theorem formTells_any (id : Int) (w : World) (hT : TabF w) :
    Calls Tryd.prog 3 #[.int .i64 id] w fun e w' => e = .returned (.bool true) ∧ Below w.heap.size w w' := by
  by_cases h : id < 1 ∨ 15 ≤ id
  · exact formTells_no id w hT h
  · obtain ⟨hw0, hw1, hw2, -⟩ := ft_bounds id
    by_cases hk : fK id = 4
    · refine formTells_yes id 0 w hT (by omega) (by omega) (fun w => ?_) (fun w => ?_)
      · rw [hk]; exact sign_no _ _ _ _ _ _ w
      · rw [hk]; exact rsign_no _ _ _ _ _ _ w
    · exact formTells_yes id _ w hT (by omega) (by omega) (fun w => sign_yes _ _ _ _ _ _ _ w (by omega) hw1 hk) (fun w => rsign_yes _ _ _ _ _ _ _ w (by omega) hw1 hk)
end Go.Proofs.YtmkhmmdomnhacaaDoor
