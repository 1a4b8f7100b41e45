/- The document's Parse, walked: words. Conditions: none. -/
import Derived.Test.YtncfbleeidjflaaGreatDoorSu34
namespace Go.Proofs.YtncfbleeidjflaaGreatDoor
open Go.RowKit Go.Cal
theorem rsgn_any (id : Int) (h1 : 1 ≤ id) (h2 : id < 15) (w : World) : Calls Tryz.prog 40 #[.agg #[.int .i64 (fK id), .int .i64 (fW id), .int .i64 (fM id), .int .i64 (fB id), .int .u64 (fT id), .int .u64 (fI id), .int .u64 (fN id)]] w fun e w' => e = .returned (.int .u64 (sgV id)) ∧ Below w.heap.size w w' := by
  unfold sgV
  by_cases h4 : fK id = 4
  · rw [if_pos h4, h4]
    exact rsign_no _ _ _ _ _ _ w
  · rw [if_neg h4]
    exact rsign_yes _ _ _ _ _ _ _ w (by have := fo_nat h1 h2 true; omega) (ft_bounds id).2.1 h4
/-- What Scan tells of a word. -/
def ScanW (l : List UInt8) (K : Int) (ng : Bool) : Prop := ∀ w, Calls Tryz.prog 39 #[.string (strL l)] w fun e w' => ∃ A n c k big cut, e = .returned (.tuple #[.agg #[.int .i64 K, .bool ng, .slice A n c, .int .i64 k, .int .i64 big, .bool cut], .int .i64 0, .int .i64 0]) ∧ Below w.heap.size w w'
set_option maxRecDepth 100000 in
set_option maxHeartbeats 4000000 in
theorem rparse_2n_true (id mode : Int) (l : List UInt8) (h1 : 1 ≤ id) (h2 : id < 15) (hm : ¬ (mode ≠ 1 ∧ mode ≠ 2)) (hs : ScanW l 2 true) (b1 : (fI id == 0) = true) (w : World) : Calls Tryz.prog 14 #[.int .i64 id, .int .i64 mode, .string (strL l)] w fun e w' => e = .returned (.tuple #[.int .u64 (0), .int .i64 1, .int .i64 5]) ∧ Below w.heap.size w w' := by
  have hof := Lib.hid fun w => rof_yes id w h1 h2
  have hsg := Lib.hid fun w => rsgn_any id h1 h2 w
  have hsc := Lib.hid hs
  clear h1 h2 hs
  rcases rmode_two hm with m1 | ⟨m1, m2⟩
  all_goals
    clear hm
    skip
    go_enter Tryz.func14, Tryz.ntmps14
    go_wp2_with fail
    refine (hof.out _).mono ?_
    rintro e w1 ⟨rfl, hb1⟩
    have hp1 := pBlk_made w1 #[.int .i64 (fK id), .int .i64 (fW id), .int .i64 (fM id), .int .i64 (fB id), .int .u64 (fT id), .int .u64 (fI id), .int .u64 (fN id)] 73
    have hB := hb1.trans (((Below.refl w1.heap.size w1).alloc (Nat.le_refl _) (.cells #[.int .i64 (fK id), .int .i64 (fW id), .int .i64 (fM id), .int .i64 (fB id), .int .u64 (fT id), .int .u64 (fI id), .int .u64 (fN id)] 73)).mono hb1.size)
    clear hb1
    go_wp2_with fail
    refine (hsc.out _).mono ?_
    rintro e w2 ⟨A3, n3, c3, k, big, cut, rfl, hb2⟩
    have hal := (Below.refl w2.heap.size w2).alloc (Nat.le_refl _) (.cells #[.int .i64 2, .bool true, .slice A3 n3 c3, .int .i64 k, .int .i64 big, .bool cut] 76)
    have hB2 := (hB.trans (hb2.mono hB.size)).trans (hal.mono (Nat.le_trans hB.size hb2.size))
    have hp2 := pBlk_st _ _ _ _ _ (pBlk_st _ _ _ _ _ hp1 hb2) hal
    have hI := pBlk_made w2 #[.int .i64 2, .bool true, .slice A3 n3 c3, .int .i64 k, .int .i64 big, .bool cut] 76
    clear hb2 hB hp1 hal
    obtain ⟨q0, q1, q2, q3, q4, q5, q6⟩ := cells7R hp2
    obtain ⟨i0, i1, i2, i3, i4, i5⟩ := pBlk_cells6 hI
    have ql := hp2.lt
    have il := hI.lt
    go_wp2_with fail
    refine (hsg.out _).mono ?_
    rintro e w3 ⟨rfl, hb3⟩
    have hfin := hB2.trans (hb3.mono hB2.size)
    have hp3 := pBlk_st _ _ _ _ _ hp2 hb3
    have hI3 := pBlk_st _ _ _ _ _ hI hb3
    clear hp2 hI hb3 hB2 q0 q1 q2 q3 q4 q5 q6 i0 i1 i2 i3 i4 i5 ql il
    obtain ⟨q0, q1, q2, q3, q4, q5, q6⟩ := cells7R hp3
    obtain ⟨i0, i1, i2, i3, i4, i5⟩ := pBlk_cells6 hI3
    have ql := hp3.lt
    have il := hI3.lt
    go_wp2
    all_goals exact bodyPost_ret (v := .tuple #[.int .u64 (0), .int .i64 1, .int .i64 5]) (by simp [results, Tryz.results14, go_sem]) rfl ⟨rfl, hfin⟩
set_option maxRecDepth 100000 in
set_option maxHeartbeats 4000000 in
theorem rparse_2y_true (id mode : Int) (l : List UInt8) (h1 : 1 ≤ id) (h2 : id < 15) (hm : ¬ (mode ≠ 1 ∧ mode ≠ 2)) (hs : ScanW l 2 true) (b1 : (fI id == 0) = false) (w : World) : Calls Tryz.prog 14 #[.int .i64 id, .int .i64 mode, .string (strL l)] w fun e w' => e = .returned (.tuple #[.int .u64 (bits BinOp.or IntKind.u64 (fI id) (sgV id)), .int .i64 0, .int .i64 0]) ∧ Below w.heap.size w w' := by
  have hof := Lib.hid fun w => rof_yes id w h1 h2
  have hsg := Lib.hid fun w => rsgn_any id h1 h2 w
  have hsc := Lib.hid hs
  clear h1 h2 hs
  rcases rmode_two hm with m1 | ⟨m1, m2⟩
  all_goals
    clear hm
    skip
    go_enter Tryz.func14, Tryz.ntmps14
    go_wp2_with fail
    refine (hof.out _).mono ?_
    rintro e w1 ⟨rfl, hb1⟩
    have hp1 := pBlk_made w1 #[.int .i64 (fK id), .int .i64 (fW id), .int .i64 (fM id), .int .i64 (fB id), .int .u64 (fT id), .int .u64 (fI id), .int .u64 (fN id)] 73
    have hB := hb1.trans (((Below.refl w1.heap.size w1).alloc (Nat.le_refl _) (.cells #[.int .i64 (fK id), .int .i64 (fW id), .int .i64 (fM id), .int .i64 (fB id), .int .u64 (fT id), .int .u64 (fI id), .int .u64 (fN id)] 73)).mono hb1.size)
    clear hb1
    go_wp2_with fail
    refine (hsc.out _).mono ?_
    rintro e w2 ⟨A3, n3, c3, k, big, cut, rfl, hb2⟩
    have hal := (Below.refl w2.heap.size w2).alloc (Nat.le_refl _) (.cells #[.int .i64 2, .bool true, .slice A3 n3 c3, .int .i64 k, .int .i64 big, .bool cut] 76)
    have hB2 := (hB.trans (hb2.mono hB.size)).trans (hal.mono (Nat.le_trans hB.size hb2.size))
    have hp2 := pBlk_st _ _ _ _ _ (pBlk_st _ _ _ _ _ hp1 hb2) hal
    have hI := pBlk_made w2 #[.int .i64 2, .bool true, .slice A3 n3 c3, .int .i64 k, .int .i64 big, .bool cut] 76
    clear hb2 hB hp1 hal
    obtain ⟨q0, q1, q2, q3, q4, q5, q6⟩ := cells7R hp2
    obtain ⟨i0, i1, i2, i3, i4, i5⟩ := pBlk_cells6 hI
    have ql := hp2.lt
    have il := hI.lt
    go_wp2_with fail
    refine (hsg.out _).mono ?_
    rintro e w3 ⟨rfl, hb3⟩
    have hfin := hB2.trans (hb3.mono hB2.size)
    have hp3 := pBlk_st _ _ _ _ _ hp2 hb3
    have hI3 := pBlk_st _ _ _ _ _ hI hb3
    clear hp2 hI hb3 hB2 q0 q1 q2 q3 q4 q5 q6 i0 i1 i2 i3 i4 i5 ql il
    obtain ⟨q0, q1, q2, q3, q4, q5, q6⟩ := cells7R hp3
    obtain ⟨i0, i1, i2, i3, i4, i5⟩ := pBlk_cells6 hI3
    have ql := hp3.lt
    have il := hI3.lt
    go_wp2
    all_goals exact bodyPost_ret (v := .tuple #[.int .u64 (bits BinOp.or IntKind.u64 (fI id) (sgV id)), .int .i64 0, .int .i64 0]) (by simp [results, Tryz.results14, go_sem]) rfl ⟨rfl, hfin⟩
set_option maxRecDepth 100000 in
set_option maxHeartbeats 4000000 in
theorem rparse_3n_true (id mode : Int) (l : List UInt8) (h1 : 1 ≤ id) (h2 : id < 15) (hm : ¬ (mode ≠ 1 ∧ mode ≠ 2)) (hs : ScanW l 3 true) (b1 : (fK id == 1) = true ∨ (fK id == 1) = false ∧ (fN id == 0) = true) (w : World) : Calls Tryz.prog 14 #[.int .i64 id, .int .i64 mode, .string (strL l)] w fun e w' => e = .returned (.tuple #[.int .u64 (0), .int .i64 1, .int .i64 5]) ∧ Below w.heap.size w w' := by
  have hof := Lib.hid fun w => rof_yes id w h1 h2
  have hsg := Lib.hid fun w => rsgn_any id h1 h2 w
  have hsc := Lib.hid hs
  clear h1 h2 hs
  rcases rmode_two hm with m1 | ⟨m1, m2⟩
  all_goals
    clear hm
    skip
    go_enter Tryz.func14, Tryz.ntmps14
    go_wp2_with fail
    refine (hof.out _).mono ?_
    rintro e w1 ⟨rfl, hb1⟩
    have hp1 := pBlk_made w1 #[.int .i64 (fK id), .int .i64 (fW id), .int .i64 (fM id), .int .i64 (fB id), .int .u64 (fT id), .int .u64 (fI id), .int .u64 (fN id)] 73
    have hB := hb1.trans (((Below.refl w1.heap.size w1).alloc (Nat.le_refl _) (.cells #[.int .i64 (fK id), .int .i64 (fW id), .int .i64 (fM id), .int .i64 (fB id), .int .u64 (fT id), .int .u64 (fI id), .int .u64 (fN id)] 73)).mono hb1.size)
    clear hb1
    go_wp2_with fail
    refine (hsc.out _).mono ?_
    rintro e w2 ⟨A3, n3, c3, k, big, cut, rfl, hb2⟩
    have hal := (Below.refl w2.heap.size w2).alloc (Nat.le_refl _) (.cells #[.int .i64 3, .bool true, .slice A3 n3 c3, .int .i64 k, .int .i64 big, .bool cut] 76)
    have hB2 := (hB.trans (hb2.mono hB.size)).trans (hal.mono (Nat.le_trans hB.size hb2.size))
    have hp2 := pBlk_st _ _ _ _ _ (pBlk_st _ _ _ _ _ hp1 hb2) hal
    have hI := pBlk_made w2 #[.int .i64 3, .bool true, .slice A3 n3 c3, .int .i64 k, .int .i64 big, .bool cut] 76
    clear hb2 hB hp1 hal
    obtain ⟨q0, q1, q2, q3, q4, q5, q6⟩ := cells7R hp2
    obtain ⟨i0, i1, i2, i3, i4, i5⟩ := pBlk_cells6 hI
    have ql := hp2.lt
    have il := hI.lt
    rcases b1 with b1 | ⟨b1, b2⟩
    all_goals
      go_wp2_with fail
      refine (hsg.out _).mono ?_
      rintro e w3 ⟨rfl, hb3⟩
      have hfin := hB2.trans (hb3.mono hB2.size)
      have hp3 := pBlk_st _ _ _ _ _ hp2 hb3
      have hI3 := pBlk_st _ _ _ _ _ hI hb3
      clear hp2 hI hb3 hB2 q0 q1 q2 q3 q4 q5 q6 i0 i1 i2 i3 i4 i5 ql il
      obtain ⟨q0, q1, q2, q3, q4, q5, q6⟩ := cells7R hp3
      obtain ⟨i0, i1, i2, i3, i4, i5⟩ := pBlk_cells6 hI3
      have ql := hp3.lt
      have il := hI3.lt
      go_wp2
      all_goals exact bodyPost_ret (v := .tuple #[.int .u64 (0), .int .i64 1, .int .i64 5]) (by simp [results, Tryz.results14, go_sem]) rfl ⟨rfl, hfin⟩
set_option maxRecDepth 100000 in
set_option maxHeartbeats 4000000 in
theorem rparse_3y_true (id mode : Int) (l : List UInt8) (h1 : 1 ≤ id) (h2 : id < 15) (hm : ¬ (mode ≠ 1 ∧ mode ≠ 2)) (hs : ScanW l 3 true) (b1 : (fK id == 1) = false) (b2 : (fN id == 0) = false) (w : World) : Calls Tryz.prog 14 #[.int .i64 id, .int .i64 mode, .string (strL l)] w fun e w' => e = .returned (.tuple #[.int .u64 (fN id), .int .i64 0, .int .i64 0]) ∧ Below w.heap.size w w' := by
  have hof := Lib.hid fun w => rof_yes id w h1 h2
  have hsg := Lib.hid fun w => rsgn_any id h1 h2 w
  have hsc := Lib.hid hs
  clear h1 h2 hs
  rcases rmode_two hm with m1 | ⟨m1, m2⟩
  all_goals
    clear hm
    skip
    go_enter Tryz.func14, Tryz.ntmps14
    go_wp2_with fail
    refine (hof.out _).mono ?_
    rintro e w1 ⟨rfl, hb1⟩
    have hp1 := pBlk_made w1 #[.int .i64 (fK id), .int .i64 (fW id), .int .i64 (fM id), .int .i64 (fB id), .int .u64 (fT id), .int .u64 (fI id), .int .u64 (fN id)] 73
    have hB := hb1.trans (((Below.refl w1.heap.size w1).alloc (Nat.le_refl _) (.cells #[.int .i64 (fK id), .int .i64 (fW id), .int .i64 (fM id), .int .i64 (fB id), .int .u64 (fT id), .int .u64 (fI id), .int .u64 (fN id)] 73)).mono hb1.size)
    clear hb1
    go_wp2_with fail
    refine (hsc.out _).mono ?_
    rintro e w2 ⟨A3, n3, c3, k, big, cut, rfl, hb2⟩
    have hal := (Below.refl w2.heap.size w2).alloc (Nat.le_refl _) (.cells #[.int .i64 3, .bool true, .slice A3 n3 c3, .int .i64 k, .int .i64 big, .bool cut] 76)
    have hB2 := (hB.trans (hb2.mono hB.size)).trans (hal.mono (Nat.le_trans hB.size hb2.size))
    have hp2 := pBlk_st _ _ _ _ _ (pBlk_st _ _ _ _ _ hp1 hb2) hal
    have hI := pBlk_made w2 #[.int .i64 3, .bool true, .slice A3 n3 c3, .int .i64 k, .int .i64 big, .bool cut] 76
    clear hb2 hB hp1 hal
    obtain ⟨q0, q1, q2, q3, q4, q5, q6⟩ := cells7R hp2
    obtain ⟨i0, i1, i2, i3, i4, i5⟩ := pBlk_cells6 hI
    have ql := hp2.lt
    have il := hI.lt
    go_wp2_with fail
    refine (hsg.out _).mono ?_
    rintro e w3 ⟨rfl, hb3⟩
    have hfin := hB2.trans (hb3.mono hB2.size)
    have hp3 := pBlk_st _ _ _ _ _ hp2 hb3
    have hI3 := pBlk_st _ _ _ _ _ hI hb3
    clear hp2 hI hb3 hB2 q0 q1 q2 q3 q4 q5 q6 i0 i1 i2 i3 i4 i5 ql il
    obtain ⟨q0, q1, q2, q3, q4, q5, q6⟩ := cells7R hp3
    obtain ⟨i0, i1, i2, i3, i4, i5⟩ := pBlk_cells6 hI3
    have ql := hp3.lt
    have il := hI3.lt
    go_wp2
    all_goals exact bodyPost_ret (v := .tuple #[.int .u64 (fN id), .int .i64 0, .int .i64 0]) (by simp [results, Tryz.results14, go_sem]) rfl ⟨rfl, hfin⟩
set_option maxRecDepth 100000 in
set_option maxHeartbeats 4000000 in
theorem rparse_4n_true (id mode : Int) (l : List UInt8) (h1 : 1 ≤ id) (h2 : id < 15) (hm : ¬ (mode ≠ 1 ∧ mode ≠ 2)) (hs : ScanW l 4 true) (b1 : (fK id == 1) = false ∨ (fK id == 1) = true) (w : World) : Calls Tryz.prog 14 #[.int .i64 id, .int .i64 mode, .string (strL l)] w fun e w' => e = .returned (.tuple #[.int .u64 (0), .int .i64 1, .int .i64 5]) ∧ Below w.heap.size w w' := by
  have hof := Lib.hid fun w => rof_yes id w h1 h2
  have hsg := Lib.hid fun w => rsgn_any id h1 h2 w
  have hsc := Lib.hid hs
  clear h1 h2 hs
  rcases rmode_two hm with m1 | ⟨m1, m2⟩
  all_goals
    clear hm
    skip
    go_enter Tryz.func14, Tryz.ntmps14
    go_wp2_with fail
    refine (hof.out _).mono ?_
    rintro e w1 ⟨rfl, hb1⟩
    have hp1 := pBlk_made w1 #[.int .i64 (fK id), .int .i64 (fW id), .int .i64 (fM id), .int .i64 (fB id), .int .u64 (fT id), .int .u64 (fI id), .int .u64 (fN id)] 73
    have hB := hb1.trans (((Below.refl w1.heap.size w1).alloc (Nat.le_refl _) (.cells #[.int .i64 (fK id), .int .i64 (fW id), .int .i64 (fM id), .int .i64 (fB id), .int .u64 (fT id), .int .u64 (fI id), .int .u64 (fN id)] 73)).mono hb1.size)
    clear hb1
    go_wp2_with fail
    refine (hsc.out _).mono ?_
    rintro e w2 ⟨A3, n3, c3, k, big, cut, rfl, hb2⟩
    have hal := (Below.refl w2.heap.size w2).alloc (Nat.le_refl _) (.cells #[.int .i64 4, .bool true, .slice A3 n3 c3, .int .i64 k, .int .i64 big, .bool cut] 76)
    have hB2 := (hB.trans (hb2.mono hB.size)).trans (hal.mono (Nat.le_trans hB.size hb2.size))
    have hp2 := pBlk_st _ _ _ _ _ (pBlk_st _ _ _ _ _ hp1 hb2) hal
    have hI := pBlk_made w2 #[.int .i64 4, .bool true, .slice A3 n3 c3, .int .i64 k, .int .i64 big, .bool cut] 76
    clear hb2 hB hp1 hal
    obtain ⟨q0, q1, q2, q3, q4, q5, q6⟩ := cells7R hp2
    obtain ⟨i0, i1, i2, i3, i4, i5⟩ := pBlk_cells6 hI
    have ql := hp2.lt
    have il := hI.lt
    rcases b1 with b1 | b1
    all_goals
      go_wp2_with fail
      refine (hsg.out _).mono ?_
      rintro e w3 ⟨rfl, hb3⟩
      have hfin := hB2.trans (hb3.mono hB2.size)
      have hp3 := pBlk_st _ _ _ _ _ hp2 hb3
      have hI3 := pBlk_st _ _ _ _ _ hI hb3
      clear hp2 hI hb3 hB2 q0 q1 q2 q3 q4 q5 q6 i0 i1 i2 i3 i4 i5 ql il
      obtain ⟨q0, q1, q2, q3, q4, q5, q6⟩ := cells7R hp3
      obtain ⟨i0, i1, i2, i3, i4, i5⟩ := pBlk_cells6 hI3
      have ql := hp3.lt
      have il := hI3.lt
      go_wp2
      all_goals exact bodyPost_ret (v := .tuple #[.int .u64 (0), .int .i64 1, .int .i64 5]) (by simp [results, Tryz.results14, go_sem]) rfl ⟨rfl, hfin⟩
set_option maxRecDepth 100000 in
set_option maxHeartbeats 4000000 in
theorem rparse_2n_false (id mode : Int) (l : List UInt8) (h1 : 1 ≤ id) (h2 : id < 15) (hm : ¬ (mode ≠ 1 ∧ mode ≠ 2)) (hs : ScanW l 2 false) (b1 : (fI id == 0) = true) (w : World) : Calls Tryz.prog 14 #[.int .i64 id, .int .i64 mode, .string (strL l)] w fun e w' => e = .returned (.tuple #[.int .u64 (0), .int .i64 0, .int .i64 5]) ∧ Below w.heap.size w w' := by
  have hof := Lib.hid fun w => rof_yes id w h1 h2
  have hsg := Lib.hid fun w => rsgn_any id h1 h2 w
  have hsc := Lib.hid hs
  clear h1 h2 hs
  rcases rmode_two hm with m1 | ⟨m1, m2⟩
  all_goals
    clear hm
    skip
    go_enter Tryz.func14, Tryz.ntmps14
    go_wp2_with fail
    refine (hof.out _).mono ?_
    rintro e w1 ⟨rfl, hb1⟩
    have hp1 := pBlk_made w1 #[.int .i64 (fK id), .int .i64 (fW id), .int .i64 (fM id), .int .i64 (fB id), .int .u64 (fT id), .int .u64 (fI id), .int .u64 (fN id)] 73
    have hB := hb1.trans (((Below.refl w1.heap.size w1).alloc (Nat.le_refl _) (.cells #[.int .i64 (fK id), .int .i64 (fW id), .int .i64 (fM id), .int .i64 (fB id), .int .u64 (fT id), .int .u64 (fI id), .int .u64 (fN id)] 73)).mono hb1.size)
    clear hb1
    go_wp2_with fail
    refine (hsc.out _).mono ?_
    rintro e w2 ⟨A3, n3, c3, k, big, cut, rfl, hb2⟩
    have hal := (Below.refl w2.heap.size w2).alloc (Nat.le_refl _) (.cells #[.int .i64 2, .bool false, .slice A3 n3 c3, .int .i64 k, .int .i64 big, .bool cut] 76)
    have hB2 := (hB.trans (hb2.mono hB.size)).trans (hal.mono (Nat.le_trans hB.size hb2.size))
    have hp2 := pBlk_st _ _ _ _ _ (pBlk_st _ _ _ _ _ hp1 hb2) hal
    have hI := pBlk_made w2 #[.int .i64 2, .bool false, .slice A3 n3 c3, .int .i64 k, .int .i64 big, .bool cut] 76
    clear hb2 hB hp1 hal
    obtain ⟨q0, q1, q2, q3, q4, q5, q6⟩ := cells7R hp2
    obtain ⟨i0, i1, i2, i3, i4, i5⟩ := pBlk_cells6 hI
    have ql := hp2.lt
    have il := hI.lt
    have hfin := hB2
    go_wp2
    all_goals exact bodyPost_ret (v := .tuple #[.int .u64 (0), .int .i64 0, .int .i64 5]) (by simp [results, Tryz.results14, go_sem]) rfl ⟨rfl, hfin⟩
set_option maxRecDepth 100000 in
set_option maxHeartbeats 4000000 in
theorem rparse_2y_false (id mode : Int) (l : List UInt8) (h1 : 1 ≤ id) (h2 : id < 15) (hm : ¬ (mode ≠ 1 ∧ mode ≠ 2)) (hs : ScanW l 2 false) (b1 : (fI id == 0) = false) (w : World) : Calls Tryz.prog 14 #[.int .i64 id, .int .i64 mode, .string (strL l)] w fun e w' => e = .returned (.tuple #[.int .u64 (bits BinOp.or IntKind.u64 (fI id) (0)), .int .i64 0, .int .i64 0]) ∧ Below w.heap.size w w' := by
  have hof := Lib.hid fun w => rof_yes id w h1 h2
  have hsg := Lib.hid fun w => rsgn_any id h1 h2 w
  have hsc := Lib.hid hs
  clear h1 h2 hs
  rcases rmode_two hm with m1 | ⟨m1, m2⟩
  all_goals
    clear hm
    skip
    go_enter Tryz.func14, Tryz.ntmps14
    go_wp2_with fail
    refine (hof.out _).mono ?_
    rintro e w1 ⟨rfl, hb1⟩
    have hp1 := pBlk_made w1 #[.int .i64 (fK id), .int .i64 (fW id), .int .i64 (fM id), .int .i64 (fB id), .int .u64 (fT id), .int .u64 (fI id), .int .u64 (fN id)] 73
    have hB := hb1.trans (((Below.refl w1.heap.size w1).alloc (Nat.le_refl _) (.cells #[.int .i64 (fK id), .int .i64 (fW id), .int .i64 (fM id), .int .i64 (fB id), .int .u64 (fT id), .int .u64 (fI id), .int .u64 (fN id)] 73)).mono hb1.size)
    clear hb1
    go_wp2_with fail
    refine (hsc.out _).mono ?_
    rintro e w2 ⟨A3, n3, c3, k, big, cut, rfl, hb2⟩
    have hal := (Below.refl w2.heap.size w2).alloc (Nat.le_refl _) (.cells #[.int .i64 2, .bool false, .slice A3 n3 c3, .int .i64 k, .int .i64 big, .bool cut] 76)
    have hB2 := (hB.trans (hb2.mono hB.size)).trans (hal.mono (Nat.le_trans hB.size hb2.size))
    have hp2 := pBlk_st _ _ _ _ _ (pBlk_st _ _ _ _ _ hp1 hb2) hal
    have hI := pBlk_made w2 #[.int .i64 2, .bool false, .slice A3 n3 c3, .int .i64 k, .int .i64 big, .bool cut] 76
    clear hb2 hB hp1 hal
    obtain ⟨q0, q1, q2, q3, q4, q5, q6⟩ := cells7R hp2
    obtain ⟨i0, i1, i2, i3, i4, i5⟩ := pBlk_cells6 hI
    have ql := hp2.lt
    have il := hI.lt
    have hfin := hB2
    go_wp2
    all_goals exact bodyPost_ret (v := .tuple #[.int .u64 (bits BinOp.or IntKind.u64 (fI id) (0)), .int .i64 0, .int .i64 0]) (by simp [results, Tryz.results14, go_sem]) rfl ⟨rfl, hfin⟩
set_option maxRecDepth 100000 in
set_option maxHeartbeats 4000000 in
theorem rparse_3n_false (id mode : Int) (l : List UInt8) (h1 : 1 ≤ id) (h2 : id < 15) (hm : ¬ (mode ≠ 1 ∧ mode ≠ 2)) (hs : ScanW l 3 false) (b1 : (fK id == 1) = true ∨ (fK id == 1) = false ∧ (fN id == 0) = true) (w : World) : Calls Tryz.prog 14 #[.int .i64 id, .int .i64 mode, .string (strL l)] w fun e w' => e = .returned (.tuple #[.int .u64 (0), .int .i64 0, .int .i64 5]) ∧ Below w.heap.size w w' := by
  have hof := Lib.hid fun w => rof_yes id w h1 h2
  have hsg := Lib.hid fun w => rsgn_any id h1 h2 w
  have hsc := Lib.hid hs
  clear h1 h2 hs
  rcases rmode_two hm with m1 | ⟨m1, m2⟩
  all_goals
    clear hm
    skip
    go_enter Tryz.func14, Tryz.ntmps14
    go_wp2_with fail
    refine (hof.out _).mono ?_
    rintro e w1 ⟨rfl, hb1⟩
    have hp1 := pBlk_made w1 #[.int .i64 (fK id), .int .i64 (fW id), .int .i64 (fM id), .int .i64 (fB id), .int .u64 (fT id), .int .u64 (fI id), .int .u64 (fN id)] 73
    have hB := hb1.trans (((Below.refl w1.heap.size w1).alloc (Nat.le_refl _) (.cells #[.int .i64 (fK id), .int .i64 (fW id), .int .i64 (fM id), .int .i64 (fB id), .int .u64 (fT id), .int .u64 (fI id), .int .u64 (fN id)] 73)).mono hb1.size)
    clear hb1
    go_wp2_with fail
    refine (hsc.out _).mono ?_
    rintro e w2 ⟨A3, n3, c3, k, big, cut, rfl, hb2⟩
    have hal := (Below.refl w2.heap.size w2).alloc (Nat.le_refl _) (.cells #[.int .i64 3, .bool false, .slice A3 n3 c3, .int .i64 k, .int .i64 big, .bool cut] 76)
    have hB2 := (hB.trans (hb2.mono hB.size)).trans (hal.mono (Nat.le_trans hB.size hb2.size))
    have hp2 := pBlk_st _ _ _ _ _ (pBlk_st _ _ _ _ _ hp1 hb2) hal
    have hI := pBlk_made w2 #[.int .i64 3, .bool false, .slice A3 n3 c3, .int .i64 k, .int .i64 big, .bool cut] 76
    clear hb2 hB hp1 hal
    obtain ⟨q0, q1, q2, q3, q4, q5, q6⟩ := cells7R hp2
    obtain ⟨i0, i1, i2, i3, i4, i5⟩ := pBlk_cells6 hI
    have ql := hp2.lt
    have il := hI.lt
    rcases b1 with b1 | ⟨b1, b2⟩
    all_goals
      have hfin := hB2
      go_wp2
      all_goals exact bodyPost_ret (v := .tuple #[.int .u64 (0), .int .i64 0, .int .i64 5]) (by simp [results, Tryz.results14, go_sem]) rfl ⟨rfl, hfin⟩
set_option maxRecDepth 100000 in
set_option maxHeartbeats 4000000 in
theorem rparse_3y_false (id mode : Int) (l : List UInt8) (h1 : 1 ≤ id) (h2 : id < 15) (hm : ¬ (mode ≠ 1 ∧ mode ≠ 2)) (hs : ScanW l 3 false) (b1 : (fK id == 1) = false) (b2 : (fN id == 0) = false) (w : World) : Calls Tryz.prog 14 #[.int .i64 id, .int .i64 mode, .string (strL l)] w fun e w' => e = .returned (.tuple #[.int .u64 (fN id), .int .i64 0, .int .i64 0]) ∧ Below w.heap.size w w' := by
  have hof := Lib.hid fun w => rof_yes id w h1 h2
  have hsg := Lib.hid fun w => rsgn_any id h1 h2 w
  have hsc := Lib.hid hs
  clear h1 h2 hs
  rcases rmode_two hm with m1 | ⟨m1, m2⟩
  all_goals
    clear hm
    skip
    go_enter Tryz.func14, Tryz.ntmps14
    go_wp2_with fail
    refine (hof.out _).mono ?_
    rintro e w1 ⟨rfl, hb1⟩
    have hp1 := pBlk_made w1 #[.int .i64 (fK id), .int .i64 (fW id), .int .i64 (fM id), .int .i64 (fB id), .int .u64 (fT id), .int .u64 (fI id), .int .u64 (fN id)] 73
    have hB := hb1.trans (((Below.refl w1.heap.size w1).alloc (Nat.le_refl _) (.cells #[.int .i64 (fK id), .int .i64 (fW id), .int .i64 (fM id), .int .i64 (fB id), .int .u64 (fT id), .int .u64 (fI id), .int .u64 (fN id)] 73)).mono hb1.size)
    clear hb1
    go_wp2_with fail
    refine (hsc.out _).mono ?_
    rintro e w2 ⟨A3, n3, c3, k, big, cut, rfl, hb2⟩
    have hal := (Below.refl w2.heap.size w2).alloc (Nat.le_refl _) (.cells #[.int .i64 3, .bool false, .slice A3 n3 c3, .int .i64 k, .int .i64 big, .bool cut] 76)
    have hB2 := (hB.trans (hb2.mono hB.size)).trans (hal.mono (Nat.le_trans hB.size hb2.size))
    have hp2 := pBlk_st _ _ _ _ _ (pBlk_st _ _ _ _ _ hp1 hb2) hal
    have hI := pBlk_made w2 #[.int .i64 3, .bool false, .slice A3 n3 c3, .int .i64 k, .int .i64 big, .bool cut] 76
    clear hb2 hB hp1 hal
    obtain ⟨q0, q1, q2, q3, q4, q5, q6⟩ := cells7R hp2
    obtain ⟨i0, i1, i2, i3, i4, i5⟩ := pBlk_cells6 hI
    have ql := hp2.lt
    have il := hI.lt
    have hfin := hB2
    go_wp2
    all_goals exact bodyPost_ret (v := .tuple #[.int .u64 (fN id), .int .i64 0, .int .i64 0]) (by simp [results, Tryz.results14, go_sem]) rfl ⟨rfl, hfin⟩
set_option maxRecDepth 100000 in
set_option maxHeartbeats 4000000 in
theorem rparse_4n_false (id mode : Int) (l : List UInt8) (h1 : 1 ≤ id) (h2 : id < 15) (hm : ¬ (mode ≠ 1 ∧ mode ≠ 2)) (hs : ScanW l 4 false) (b1 : (fK id == 1) = false) (w : World) : Calls Tryz.prog 14 #[.int .i64 id, .int .i64 mode, .string (strL l)] w fun e w' => e = .returned (.tuple #[.int .u64 (0), .int .i64 0, .int .i64 5]) ∧ Below w.heap.size w w' := by
  have hof := Lib.hid fun w => rof_yes id w h1 h2
  have hsg := Lib.hid fun w => rsgn_any id h1 h2 w
  have hsc := Lib.hid hs
  clear h1 h2 hs
  rcases rmode_two hm with m1 | ⟨m1, m2⟩
  all_goals
    clear hm
    skip
    go_enter Tryz.func14, Tryz.ntmps14
    go_wp2_with fail
    refine (hof.out _).mono ?_
    rintro e w1 ⟨rfl, hb1⟩
    have hp1 := pBlk_made w1 #[.int .i64 (fK id), .int .i64 (fW id), .int .i64 (fM id), .int .i64 (fB id), .int .u64 (fT id), .int .u64 (fI id), .int .u64 (fN id)] 73
    have hB := hb1.trans (((Below.refl w1.heap.size w1).alloc (Nat.le_refl _) (.cells #[.int .i64 (fK id), .int .i64 (fW id), .int .i64 (fM id), .int .i64 (fB id), .int .u64 (fT id), .int .u64 (fI id), .int .u64 (fN id)] 73)).mono hb1.size)
    clear hb1
    go_wp2_with fail
    refine (hsc.out _).mono ?_
    rintro e w2 ⟨A3, n3, c3, k, big, cut, rfl, hb2⟩
    have hal := (Below.refl w2.heap.size w2).alloc (Nat.le_refl _) (.cells #[.int .i64 4, .bool false, .slice A3 n3 c3, .int .i64 k, .int .i64 big, .bool cut] 76)
    have hB2 := (hB.trans (hb2.mono hB.size)).trans (hal.mono (Nat.le_trans hB.size hb2.size))
    have hp2 := pBlk_st _ _ _ _ _ (pBlk_st _ _ _ _ _ hp1 hb2) hal
    have hI := pBlk_made w2 #[.int .i64 4, .bool false, .slice A3 n3 c3, .int .i64 k, .int .i64 big, .bool cut] 76
    clear hb2 hB hp1 hal
    obtain ⟨q0, q1, q2, q3, q4, q5, q6⟩ := cells7R hp2
    obtain ⟨i0, i1, i2, i3, i4, i5⟩ := pBlk_cells6 hI
    have ql := hp2.lt
    have il := hI.lt
    have hfin := hB2
    go_wp2
    all_goals exact bodyPost_ret (v := .tuple #[.int .u64 (0), .int .i64 0, .int .i64 5]) (by simp [results, Tryz.results14, go_sem]) rfl ⟨rfl, hfin⟩
set_option maxRecDepth 100000 in
set_option maxHeartbeats 4000000 in
theorem rparse_4y_false (id mode : Int) (l : List UInt8) (h1 : 1 ≤ id) (h2 : id < 15) (hm : ¬ (mode ≠ 1 ∧ mode ≠ 2)) (hs : ScanW l 4 false) (b1 : (fK id == 1) = true) (w : World) : Calls Tryz.prog 14 #[.int .i64 id, .int .i64 mode, .string (strL l)] w fun e w' => e = .returned (.tuple #[.int .u64 (fN id), .int .i64 0, .int .i64 0]) ∧ Below w.heap.size w w' := by
  have hof := Lib.hid fun w => rof_yes id w h1 h2
  have hsg := Lib.hid fun w => rsgn_any id h1 h2 w
  have hsc := Lib.hid hs
  clear h1 h2 hs
  rcases rmode_two hm with m1 | ⟨m1, m2⟩
  all_goals
    clear hm
    skip
    go_enter Tryz.func14, Tryz.ntmps14
    go_wp2_with fail
    refine (hof.out _).mono ?_
    rintro e w1 ⟨rfl, hb1⟩
    have hp1 := pBlk_made w1 #[.int .i64 (fK id), .int .i64 (fW id), .int .i64 (fM id), .int .i64 (fB id), .int .u64 (fT id), .int .u64 (fI id), .int .u64 (fN id)] 73
    have hB := hb1.trans (((Below.refl w1.heap.size w1).alloc (Nat.le_refl _) (.cells #[.int .i64 (fK id), .int .i64 (fW id), .int .i64 (fM id), .int .i64 (fB id), .int .u64 (fT id), .int .u64 (fI id), .int .u64 (fN id)] 73)).mono hb1.size)
    clear hb1
    go_wp2_with fail
    refine (hsc.out _).mono ?_
    rintro e w2 ⟨A3, n3, c3, k, big, cut, rfl, hb2⟩
    have hal := (Below.refl w2.heap.size w2).alloc (Nat.le_refl _) (.cells #[.int .i64 4, .bool false, .slice A3 n3 c3, .int .i64 k, .int .i64 big, .bool cut] 76)
    have hB2 := (hB.trans (hb2.mono hB.size)).trans (hal.mono (Nat.le_trans hB.size hb2.size))
    have hp2 := pBlk_st _ _ _ _ _ (pBlk_st _ _ _ _ _ hp1 hb2) hal
    have hI := pBlk_made w2 #[.int .i64 4, .bool false, .slice A3 n3 c3, .int .i64 k, .int .i64 big, .bool cut] 76
    clear hb2 hB hp1 hal
    obtain ⟨q0, q1, q2, q3, q4, q5, q6⟩ := cells7R hp2
    obtain ⟨i0, i1, i2, i3, i4, i5⟩ := pBlk_cells6 hI
    have ql := hp2.lt
    have il := hI.lt
    have hfin := hB2
    go_wp2
    all_goals exact bodyPost_ret (v := .tuple #[.int .u64 (fN id), .int .i64 0, .int .i64 0]) (by simp [results, Tryz.results14, go_sem]) rfl ⟨rfl, hfin⟩
end Go.Proofs.YtncfbleeidjflaaGreatDoor
