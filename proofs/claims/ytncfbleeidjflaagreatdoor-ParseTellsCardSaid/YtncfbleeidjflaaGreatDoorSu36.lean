/- The document's Parse, walked: numbers. Conditions: none. -/
/- The document's Parse, by what it tells. Conditions: none. -/
import Derived.Test.YtncfbleeidjflaaGreatDoorSu35
namespace Go.Proofs.YtncfbleeidjflaaGreatDoor
open Go.RowKit Go.Cal
/-- What Scan tells of a number. -/
def ScanN (l : List UInt8) (ng : Bool) (d : Nat) (k big : Int) (cut : Bool) : Prop := ∀ w, Calls Tryz.prog 39 #[.string (strL l)] w fun e w' => ∃ A n c, e = .returned (.tuple #[.agg #[.int .i64 1, .bool ng, .slice A n c, .int .i64 k, .int .i64 big, .bool cut], .int .i64 0, .int .i64 0]) ∧ IsT w' (.slice A n c) 2000 d ∧ Below w.heap.size w w'
theorem one_t (w : World) : IsT (w.alloc (.cells #[.int .u64 1] 22)) (.slice (some ⟨w.heap.size, 0, none⟩) 1 1) 1 1 := by
  obtain ⟨A, c, zs, e, hr, h1, h3, h4, h5⟩ := isN_lit w [1] #[.int .u64 1] 1 1 rfl (fun x hx => by simp at hx; omega) rfl (by simp [vl])
  injection e with e1 e2 e3
  subst e1; subst e3
  obtain ⟨x, rfl⟩ : ∃ x, zs = [x] := by
    match zs, e2 with
    | [x], _ => exact ⟨x, rfl⟩
  have hx : x = 1 := by simpa [vl] using h5
  subst hx
  exact ⟨_, _, [1], rfl, hr, by simp, by unfold maxLen; omega, by simp, ⟨h4, fun h => by simp, by simp [vl]⟩⟩
theorem isT_row {w : World} {g b n c k N : Nat} {cs : Array Value} (h : IsT w (.slice (some ⟨b, 0, none⟩) n c) k N) (hne : b ≠ g) : IsT (w.setRow g cs) (.slice (some ⟨b, 0, none⟩) n c) k N := by
  obtain ⟨A, c', zs, e, r, h3⟩ := h
  injection e with e1 e2 e3
  subst e1; subst e2; subst e3
  refine ⟨_, _, zs, rfl, ⟨?_, fun b' off e i hi => ?_⟩, h3⟩
  · rcases r.place with h1 | ⟨b1, o1, f1, h1⟩
    · exact .inl h1
    · exact .inr ⟨b1, o1, f1, by simpa [World.setRow] using h1⟩
  · have hc := r.cells b' off e i hi
    injection e with e
    injection e with e4 e5
    subst e4
    rw [World.cell?_of_block (setRow_oth hne)]
    exact hc
set_option maxRecDepth 100000 in
set_option maxHeartbeats 4000000 in
theorem rparse_n0_true (id mode : Int) (l : List UInt8) (h1 : 1 ≤ id) (h2 : id < 15) (hm : ¬ (mode ≠ 1 ∧ mode ≠ 2)) (d : Nat) (k : Int) (cut : Bool) (hs : ScanN l true d k 0 cut) (hk : -5000 ≤ k ∧ k ≤ 5000) (w : World) : Calls Tryz.prog 14 #[.int .i64 id, .int .i64 mode, .string (strL l)] w fun e w' => e = .returned (.tuple #[.int .u64 (roundP id mode true (exP d k k) (exQ k k)), .int .i64 0, .int .i64 0]) ∧ Below w.heap.size w w' := by
  have hE : roundE id mode = 0 := by unfold roundE; rw [if_neg (by omega), if_neg hm]
  have hof := Lib.hid fun w => rof_yes id w h1 h2
  have hsg := Lib.hid fun w => rsgn_any id h1 h2 w
  have hsc := Lib.hid hs
  have hrd := Lib.hid (fun (W : World) A n c (hv : IsT W (.slice A n c) 2000 d) => rround8_any id mode hE true k k W hv (by decide) hk hk)
  generalize roundP id mode true (exP d k k) (exQ k k) = rp at hrd ⊢
  clear h1 h2 hs hE
  rcases rmode_two hm with m1 | ⟨m1, m2⟩
  all_goals
    clear hm
    skip
    go_enter Tryz.func14, Tryz.ntmps14
    go_wp2_with fail
    refine (hof.out _).mono ?_
    rintro e w1 ⟨rfl, hb1⟩
    have hp1 := pBlk_made w1 #[.int .i64 (fK id), .int .i64 (fW id), .int .i64 (fM id), .int .i64 (fB id), .int .u64 (fT id), .int .u64 (fI id), .int .u64 (fN id)] 73
    have hB := hb1.trans (((Below.refl w1.heap.size w1).alloc (Nat.le_refl _) (.cells #[.int .i64 (fK id), .int .i64 (fW id), .int .i64 (fM id), .int .i64 (fB id), .int .u64 (fT id), .int .u64 (fI id), .int .u64 (fN id)] 73)).mono hb1.size)
    clear hb1
    go_wp2_with fail
    refine (hsc.out _).mono ?_
    rintro e w2 ⟨A3, n3, c3, rfl, hT2, hb2⟩
    have hal := (Below.refl w2.heap.size w2).alloc (Nat.le_refl _) (.cells #[.int .i64 1, .bool true, .slice A3 n3 c3, .int .i64 k, .int .i64 0, .bool cut] 76)
    have hB2 := (hB.trans (hb2.mono hB.size)).trans (hal.mono (Nat.le_trans hB.size hb2.size))
    have hp2 := pBlk_st _ _ _ _ _ (pBlk_st _ _ _ _ _ hp1 hb2) hal
    have hI := pBlk_made w2 #[.int .i64 1, .bool true, .slice A3 n3 c3, .int .i64 k, .int .i64 0, .bool cut] 76
    have hT := IsT.below hT2 hal
    clear hb2 hB hp1 hal hT2
    obtain ⟨q0, q1, q2, q3, q4, q5, q6⟩ := cells7R hp2
    obtain ⟨i0, i1, i2, i3, i4, i5⟩ := pBlk_cells6 hI
    have ql := hp2.lt
    have il := hI.lt
    go_wp2_with fail
    refine (hsg.out _).mono ?_
    rintro e V ⟨rfl, hb3⟩
    have hBV := hB2.trans (hb3.mono hB2.size)
    have hp3 := pBlk_st _ _ _ _ _ hp2 hb3
    have hI3 := pBlk_st _ _ _ _ _ hI hb3
    have hTV := IsT.below hT hb3
    clear hp2 hI hb3 hB2 q0 q1 q2 q3 q4 q5 q6 i0 i1 i2 i3 i4 i5 ql il hT
    obtain ⟨q0, q1, q2, q3, q4, q5, q6⟩ := cells7R hp3
    obtain ⟨i0, i1, i2, i3, i4, i5⟩ := pBlk_cells6 hI3
    have ql := hp3.lt
    have il := hI3.lt
    have hal := (Below.refl V.heap.size V).alloc (Nat.le_refl _) (.cells #[.bool true, .slice A3 n3 c3, .int .i64 k, .int .i64 k] 71)
    have hT4 := IsT.below hTV hal
    have hB4 := hBV.trans (hal.mono hBV.size)
    clear hal hTV hBV
    go_wp2_with fail
    refine (hrd.out _ _ _ _ hT4).mono ?_
    rintro e w6 ⟨rfl, hb6⟩
    have hfin := hB4.trans (hb6.mono hB4.size)
    go_wp2
    all_goals exact bodyPost_ret (v := .tuple #[.int .u64 rp, .int .i64 0, .int .i64 0]) (by simp [results, Tryz.results14, go_sem]) rfl ⟨rfl, hfin⟩
set_option maxRecDepth 100000 in
set_option maxHeartbeats 4000000 in
theorem rparse_np_true (id mode : Int) (l : List UInt8) (h1 : 1 ≤ id) (h2 : id < 15) (hm : ¬ (mode ≠ 1 ∧ mode ≠ 2)) (d : Nat) (k : Int) (cut : Bool) (hs : ScanN l true d k 1 cut) (w : World) : Calls Tryz.prog 14 #[.int .i64 id, .int .i64 mode, .string (strL l)] w fun e w' => e = .returned (.tuple #[.int .u64 (roundP id mode true (exP 1 1000 1000) (exQ 1000 1000)), .int .i64 0, .int .i64 0]) ∧ Below w.heap.size w w' := by
  have hE : roundE id mode = 0 := by unfold roundE; rw [if_neg (by omega), if_neg hm]
  have hof := Lib.hid fun w => rof_yes id w h1 h2
  have hsg := Lib.hid fun w => rsgn_any id h1 h2 w
  have hsc := Lib.hid hs
  have hrd := Lib.hid (fun (W : World) A n c (hv : IsT W (.slice A n c) 1 1) => rround8_any id mode hE true 1000 1000 W hv (by decide) (by decide) (by decide))
  generalize roundP id mode true (exP 1 1000 1000) (exQ 1000 1000) = rp at hrd ⊢
  clear h1 h2 hs hE
  rcases rmode_two hm with m1 | ⟨m1, m2⟩
  all_goals
    clear hm
    skip
    go_enter Tryz.func14, Tryz.ntmps14
    go_wp2_with fail
    refine (hof.out _).mono ?_
    rintro e w1 ⟨rfl, hb1⟩
    have hp1 := pBlk_made w1 #[.int .i64 (fK id), .int .i64 (fW id), .int .i64 (fM id), .int .i64 (fB id), .int .u64 (fT id), .int .u64 (fI id), .int .u64 (fN id)] 73
    have hB := hb1.trans (((Below.refl w1.heap.size w1).alloc (Nat.le_refl _) (.cells #[.int .i64 (fK id), .int .i64 (fW id), .int .i64 (fM id), .int .i64 (fB id), .int .u64 (fT id), .int .u64 (fI id), .int .u64 (fN id)] 73)).mono hb1.size)
    clear hb1
    go_wp2_with fail
    refine (hsc.out _).mono ?_
    rintro e w2 ⟨A3, n3, c3, rfl, hT2, hb2⟩
    have hal := (Below.refl w2.heap.size w2).alloc (Nat.le_refl _) (.cells #[.int .i64 1, .bool true, .slice A3 n3 c3, .int .i64 k, .int .i64 1, .bool cut] 76)
    have hB2 := (hB.trans (hb2.mono hB.size)).trans (hal.mono (Nat.le_trans hB.size hb2.size))
    have hp2 := pBlk_st _ _ _ _ _ (pBlk_st _ _ _ _ _ hp1 hb2) hal
    have hI := pBlk_made w2 #[.int .i64 1, .bool true, .slice A3 n3 c3, .int .i64 k, .int .i64 1, .bool cut] 76
    have hT := IsT.below hT2 hal
    clear hb2 hB hp1 hal hT2
    obtain ⟨q0, q1, q2, q3, q4, q5, q6⟩ := cells7R hp2
    obtain ⟨i0, i1, i2, i3, i4, i5⟩ := pBlk_cells6 hI
    have ql := hp2.lt
    have il := hI.lt
    go_wp2_with fail
    refine (hsg.out _).mono ?_
    rintro e V ⟨rfl, hb3⟩
    have hBV := hB2.trans (hb3.mono hB2.size)
    have hp3 := pBlk_st _ _ _ _ _ hp2 hb3
    have hI3 := pBlk_st _ _ _ _ _ hI hb3
    have hTV := IsT.below hT hb3
    clear hp2 hI hb3 hB2 q0 q1 q2 q3 q4 q5 q6 i0 i1 i2 i3 i4 i5 ql il hT
    obtain ⟨q0, q1, q2, q3, q4, q5, q6⟩ := cells7R hp3
    obtain ⟨i0, i1, i2, i3, i4, i5⟩ := pBlk_cells6 hI3
    have ql := hp3.lt
    have il := hI3.lt
    have hal := (Below.refl V.heap.size V).alloc (Nat.le_refl _) (.cells #[.bool true, .slice A3 n3 c3, .int .i64 k, .int .i64 k] 71)
    have hal2 := (Below.refl (V.alloc (.cells #[.bool true, .slice A3 n3 c3, .int .i64 k, .int .i64 k] 71)).heap.size (V.alloc (.cells #[.bool true, .slice A3 n3 c3, .int .i64 k, .int .i64 k] 71))).alloc (Nat.le_refl _) (.cells #[.int .u64 1] 22)
    have hr2 := pBlk_st _ _ _ _ _ (pBlk_made V #[.bool true, .slice A3 n3 c3, .int .i64 k, .int .i64 k] 71) hal2
    have hB5 := hBV.trans ((hal.trans (hal2.mono hal.size)).mono hBV.size)
    have hO := one_t (V.alloc (.cells #[.bool true, .slice A3 n3 c3, .int .i64 k, .int .i64 k] 71))
    rw [show (V.alloc (.cells #[.bool true, .slice A3 n3 c3, .int .i64 k, .int .i64 k] 71)).heap.size = V.heap.size + 1 by simp] at hO
    have hsz := hBV.size
    clear hal hal2 hTV hBV
    go_wp2_with (first | ((with_reducible show wpList _ _ _ (Oper.mk _ (Op.store _ _ _) _ _ _ _ :: _) _ _); refine wpList_store_rowE _ rfl 71 _ _ rfl V.heap.size #[.bool true, .slice (some ⟨V.heap.size + 1, 0, none⟩) 1 1, .int .i64 1000, .int .i64 1000] #[.bool true, .slice A3 n3 c3, .int .i64 k, .int .i64 k] 71 rfl rfl hr2 exactr_size rfl (by simp [Value.oneCell']) ?_; obtain ⟨w5, hw5⟩ : ∃ w5, World.setRow ((V.alloc (.cells #[.bool true, .slice A3 n3 c3, .int .i64 k, .int .i64 k] 71)).alloc (.cells #[.int .u64 1] 22)) V.heap.size #[.bool true, .slice (some ⟨V.heap.size + 1, 0, none⟩) 1 1, .int .i64 1000, .int .i64 1000] = w5 := ⟨_, rfl⟩; have hp5 : pBlk V.heap.size #[.bool true, .slice (some ⟨V.heap.size + 1, 0, none⟩) 1 1, .int .i64 1000, .int .i64 1000] 71 w5 := (by rw [← hw5]; exact setRow_heap _ _ _ _ _ _ hr2); have hO5 : IsT w5 (.slice (some ⟨V.heap.size + 1, 0, none⟩) 1 1) 1 1 := (by rw [← hw5]; exact isT_row hO (by omega)); have hB6 : Below w.heap.size w w5 := (by rw [← hw5]; exact below_setRow hB5 hsz _); rw [hw5]; obtain ⟨r0, r1, r2, r3⟩ := cells4E hp5; have rl := hp5.lt; clear hw5 hr2 hO hB5 q0 q1 q2 q3 q4 q5 q6 i0 i1 i2 i3 i4 i5 ql il))
    refine (hrd.out _ _ _ _ hO5).mono ?_
    rintro e w6 ⟨rfl, hb6⟩
    have hfin := hB6.trans (hb6.mono hB6.size)
    go_wp2
    all_goals exact bodyPost_ret (v := .tuple #[.int .u64 rp, .int .i64 0, .int .i64 0]) (by simp [results, Tryz.results14, go_sem]) rfl ⟨rfl, hfin⟩
set_option maxRecDepth 100000 in
set_option maxHeartbeats 4000000 in
theorem rparse_nm_true (id mode : Int) (l : List UInt8) (h1 : 1 ≤ id) (h2 : id < 15) (hm : ¬ (mode ≠ 1 ∧ mode ≠ 2)) (d : Nat) (k : Int) (cut : Bool) (hs : ScanN l true d k (-1) cut) (w : World) : Calls Tryz.prog 14 #[.int .i64 id, .int .i64 mode, .string (strL l)] w fun e w' => e = .returned (.tuple #[.int .u64 (roundP id mode true (exP 1 (-1000) (-1000)) (exQ (-1000) (-1000))), .int .i64 0, .int .i64 0]) ∧ Below w.heap.size w w' := by
  have hE : roundE id mode = 0 := by unfold roundE; rw [if_neg (by omega), if_neg hm]
  have hof := Lib.hid fun w => rof_yes id w h1 h2
  have hsg := Lib.hid fun w => rsgn_any id h1 h2 w
  have hsc := Lib.hid hs
  have hrd := Lib.hid (fun (W : World) A n c (hv : IsT W (.slice A n c) 1 1) => rround8_any id mode hE true (-1000) (-1000) W hv (by decide) (by decide) (by decide))
  generalize roundP id mode true (exP 1 (-1000) (-1000)) (exQ (-1000) (-1000)) = rp at hrd ⊢
  clear h1 h2 hs hE
  rcases rmode_two hm with m1 | ⟨m1, m2⟩
  all_goals
    clear hm
    skip
    go_enter Tryz.func14, Tryz.ntmps14
    go_wp2_with fail
    refine (hof.out _).mono ?_
    rintro e w1 ⟨rfl, hb1⟩
    have hp1 := pBlk_made w1 #[.int .i64 (fK id), .int .i64 (fW id), .int .i64 (fM id), .int .i64 (fB id), .int .u64 (fT id), .int .u64 (fI id), .int .u64 (fN id)] 73
    have hB := hb1.trans (((Below.refl w1.heap.size w1).alloc (Nat.le_refl _) (.cells #[.int .i64 (fK id), .int .i64 (fW id), .int .i64 (fM id), .int .i64 (fB id), .int .u64 (fT id), .int .u64 (fI id), .int .u64 (fN id)] 73)).mono hb1.size)
    clear hb1
    go_wp2_with fail
    refine (hsc.out _).mono ?_
    rintro e w2 ⟨A3, n3, c3, rfl, hT2, hb2⟩
    have hal := (Below.refl w2.heap.size w2).alloc (Nat.le_refl _) (.cells #[.int .i64 1, .bool true, .slice A3 n3 c3, .int .i64 k, .int .i64 (-1), .bool cut] 76)
    have hB2 := (hB.trans (hb2.mono hB.size)).trans (hal.mono (Nat.le_trans hB.size hb2.size))
    have hp2 := pBlk_st _ _ _ _ _ (pBlk_st _ _ _ _ _ hp1 hb2) hal
    have hI := pBlk_made w2 #[.int .i64 1, .bool true, .slice A3 n3 c3, .int .i64 k, .int .i64 (-1), .bool cut] 76
    have hT := IsT.below hT2 hal
    clear hb2 hB hp1 hal hT2
    obtain ⟨q0, q1, q2, q3, q4, q5, q6⟩ := cells7R hp2
    obtain ⟨i0, i1, i2, i3, i4, i5⟩ := pBlk_cells6 hI
    have ql := hp2.lt
    have il := hI.lt
    go_wp2_with fail
    refine (hsg.out _).mono ?_
    rintro e V ⟨rfl, hb3⟩
    have hBV := hB2.trans (hb3.mono hB2.size)
    have hp3 := pBlk_st _ _ _ _ _ hp2 hb3
    have hI3 := pBlk_st _ _ _ _ _ hI hb3
    have hTV := IsT.below hT hb3
    clear hp2 hI hb3 hB2 q0 q1 q2 q3 q4 q5 q6 i0 i1 i2 i3 i4 i5 ql il hT
    obtain ⟨q0, q1, q2, q3, q4, q5, q6⟩ := cells7R hp3
    obtain ⟨i0, i1, i2, i3, i4, i5⟩ := pBlk_cells6 hI3
    have ql := hp3.lt
    have il := hI3.lt
    have hal := (Below.refl V.heap.size V).alloc (Nat.le_refl _) (.cells #[.bool true, .slice A3 n3 c3, .int .i64 k, .int .i64 k] 71)
    have hal2 := (Below.refl (V.alloc (.cells #[.bool true, .slice A3 n3 c3, .int .i64 k, .int .i64 k] 71)).heap.size (V.alloc (.cells #[.bool true, .slice A3 n3 c3, .int .i64 k, .int .i64 k] 71))).alloc (Nat.le_refl _) (.cells #[.int .u64 1] 22)
    have hr2 := pBlk_st _ _ _ _ _ (pBlk_made V #[.bool true, .slice A3 n3 c3, .int .i64 k, .int .i64 k] 71) hal2
    have hB5 := hBV.trans ((hal.trans (hal2.mono hal.size)).mono hBV.size)
    have hO := one_t (V.alloc (.cells #[.bool true, .slice A3 n3 c3, .int .i64 k, .int .i64 k] 71))
    rw [show (V.alloc (.cells #[.bool true, .slice A3 n3 c3, .int .i64 k, .int .i64 k] 71)).heap.size = V.heap.size + 1 by simp] at hO
    have hsz := hBV.size
    clear hal hal2 hTV hBV
    go_wp2_with (first | ((with_reducible show wpList _ _ _ (Oper.mk _ (Op.store _ _ _) _ _ _ _ :: _) _ _); refine wpList_store_rowE _ rfl 71 _ _ rfl V.heap.size #[.bool true, .slice (some ⟨V.heap.size + 1, 0, none⟩) 1 1, .int .i64 (-1000), .int .i64 (-1000)] #[.bool true, .slice A3 n3 c3, .int .i64 k, .int .i64 k] 71 rfl rfl hr2 exactr_size rfl (by simp [Value.oneCell']) ?_; obtain ⟨w5, hw5⟩ : ∃ w5, World.setRow ((V.alloc (.cells #[.bool true, .slice A3 n3 c3, .int .i64 k, .int .i64 k] 71)).alloc (.cells #[.int .u64 1] 22)) V.heap.size #[.bool true, .slice (some ⟨V.heap.size + 1, 0, none⟩) 1 1, .int .i64 (-1000), .int .i64 (-1000)] = w5 := ⟨_, rfl⟩; have hp5 : pBlk V.heap.size #[.bool true, .slice (some ⟨V.heap.size + 1, 0, none⟩) 1 1, .int .i64 (-1000), .int .i64 (-1000)] 71 w5 := (by rw [← hw5]; exact setRow_heap _ _ _ _ _ _ hr2); have hO5 : IsT w5 (.slice (some ⟨V.heap.size + 1, 0, none⟩) 1 1) 1 1 := (by rw [← hw5]; exact isT_row hO (by omega)); have hB6 : Below w.heap.size w w5 := (by rw [← hw5]; exact below_setRow hB5 hsz _); rw [hw5]; obtain ⟨r0, r1, r2, r3⟩ := cells4E hp5; have rl := hp5.lt; clear hw5 hr2 hO hB5 q0 q1 q2 q3 q4 q5 q6 i0 i1 i2 i3 i4 i5 ql il))
    refine (hrd.out _ _ _ _ hO5).mono ?_
    rintro e w6 ⟨rfl, hb6⟩
    have hfin := hB6.trans (hb6.mono hB6.size)
    go_wp2
    all_goals exact bodyPost_ret (v := .tuple #[.int .u64 rp, .int .i64 0, .int .i64 0]) (by simp [results, Tryz.results14, go_sem]) rfl ⟨rfl, hfin⟩
set_option maxRecDepth 100000 in
set_option maxHeartbeats 4000000 in
theorem rparse_n0_false (id mode : Int) (l : List UInt8) (h1 : 1 ≤ id) (h2 : id < 15) (hm : ¬ (mode ≠ 1 ∧ mode ≠ 2)) (d : Nat) (k : Int) (cut : Bool) (hs : ScanN l false d k 0 cut) (hk : -5000 ≤ k ∧ k ≤ 5000) (w : World) : Calls Tryz.prog 14 #[.int .i64 id, .int .i64 mode, .string (strL l)] w fun e w' => e = .returned (.tuple #[.int .u64 (roundP id mode false (exP d k k) (exQ k k)), .int .i64 0, .int .i64 0]) ∧ Below w.heap.size w w' := by
  have hE : roundE id mode = 0 := by unfold roundE; rw [if_neg (by omega), if_neg hm]
  have hof := Lib.hid fun w => rof_yes id w h1 h2
  have hsg := Lib.hid fun w => rsgn_any id h1 h2 w
  have hsc := Lib.hid hs
  have hrd := Lib.hid (fun (W : World) A n c (hv : IsT W (.slice A n c) 2000 d) => rround8_any id mode hE false k k W hv (by decide) hk hk)
  generalize roundP id mode false (exP d k k) (exQ k k) = rp at hrd ⊢
  clear h1 h2 hs hE
  rcases rmode_two hm with m1 | ⟨m1, m2⟩
  all_goals
    clear hm
    skip
    go_enter Tryz.func14, Tryz.ntmps14
    go_wp2_with fail
    refine (hof.out _).mono ?_
    rintro e w1 ⟨rfl, hb1⟩
    have hp1 := pBlk_made w1 #[.int .i64 (fK id), .int .i64 (fW id), .int .i64 (fM id), .int .i64 (fB id), .int .u64 (fT id), .int .u64 (fI id), .int .u64 (fN id)] 73
    have hB := hb1.trans (((Below.refl w1.heap.size w1).alloc (Nat.le_refl _) (.cells #[.int .i64 (fK id), .int .i64 (fW id), .int .i64 (fM id), .int .i64 (fB id), .int .u64 (fT id), .int .u64 (fI id), .int .u64 (fN id)] 73)).mono hb1.size)
    clear hb1
    go_wp2_with fail
    refine (hsc.out _).mono ?_
    rintro e w2 ⟨A3, n3, c3, rfl, hT2, hb2⟩
    have hal := (Below.refl w2.heap.size w2).alloc (Nat.le_refl _) (.cells #[.int .i64 1, .bool false, .slice A3 n3 c3, .int .i64 k, .int .i64 0, .bool cut] 76)
    have hB2 := (hB.trans (hb2.mono hB.size)).trans (hal.mono (Nat.le_trans hB.size hb2.size))
    have hp2 := pBlk_st _ _ _ _ _ (pBlk_st _ _ _ _ _ hp1 hb2) hal
    have hI := pBlk_made w2 #[.int .i64 1, .bool false, .slice A3 n3 c3, .int .i64 k, .int .i64 0, .bool cut] 76
    have hT := IsT.below hT2 hal
    clear hb2 hB hp1 hal hT2
    obtain ⟨q0, q1, q2, q3, q4, q5, q6⟩ := cells7R hp2
    obtain ⟨i0, i1, i2, i3, i4, i5⟩ := pBlk_cells6 hI
    have ql := hp2.lt
    have il := hI.lt
    have hBV := hB2
    have hTV := hT
    have hI3 := hI
    have hal := (Below.refl (w2.alloc (.cells #[.int .i64 1, .bool false, .slice A3 n3 c3, .int .i64 k, .int .i64 0, .bool cut] 76)).heap.size (w2.alloc (.cells #[.int .i64 1, .bool false, .slice A3 n3 c3, .int .i64 k, .int .i64 0, .bool cut] 76))).alloc (Nat.le_refl _) (.cells #[.bool false, .slice A3 n3 c3, .int .i64 k, .int .i64 k] 71)
    have hT4 := IsT.below hTV hal
    have hB4 := hBV.trans (hal.mono hBV.size)
    clear hal hTV hBV
    go_wp2_with fail
    refine (hrd.out _ _ _ _ hT4).mono ?_
    rintro e w6 ⟨rfl, hb6⟩
    have hfin := hB4.trans (hb6.mono hB4.size)
    go_wp2
    all_goals exact bodyPost_ret (v := .tuple #[.int .u64 rp, .int .i64 0, .int .i64 0]) (by simp [results, Tryz.results14, go_sem]) rfl ⟨rfl, hfin⟩
set_option maxRecDepth 100000 in
set_option maxHeartbeats 4000000 in
theorem rparse_np_false (id mode : Int) (l : List UInt8) (h1 : 1 ≤ id) (h2 : id < 15) (hm : ¬ (mode ≠ 1 ∧ mode ≠ 2)) (d : Nat) (k : Int) (cut : Bool) (hs : ScanN l false d k 1 cut) (w : World) : Calls Tryz.prog 14 #[.int .i64 id, .int .i64 mode, .string (strL l)] w fun e w' => e = .returned (.tuple #[.int .u64 (roundP id mode false (exP 1 1000 1000) (exQ 1000 1000)), .int .i64 0, .int .i64 0]) ∧ Below w.heap.size w w' := by
  have hE : roundE id mode = 0 := by unfold roundE; rw [if_neg (by omega), if_neg hm]
  have hof := Lib.hid fun w => rof_yes id w h1 h2
  have hsg := Lib.hid fun w => rsgn_any id h1 h2 w
  have hsc := Lib.hid hs
  have hrd := Lib.hid (fun (W : World) A n c (hv : IsT W (.slice A n c) 1 1) => rround8_any id mode hE false 1000 1000 W hv (by decide) (by decide) (by decide))
  generalize roundP id mode false (exP 1 1000 1000) (exQ 1000 1000) = rp at hrd ⊢
  clear h1 h2 hs hE
  rcases rmode_two hm with m1 | ⟨m1, m2⟩
  all_goals
    clear hm
    skip
    go_enter Tryz.func14, Tryz.ntmps14
    go_wp2_with fail
    refine (hof.out _).mono ?_
    rintro e w1 ⟨rfl, hb1⟩
    have hp1 := pBlk_made w1 #[.int .i64 (fK id), .int .i64 (fW id), .int .i64 (fM id), .int .i64 (fB id), .int .u64 (fT id), .int .u64 (fI id), .int .u64 (fN id)] 73
    have hB := hb1.trans (((Below.refl w1.heap.size w1).alloc (Nat.le_refl _) (.cells #[.int .i64 (fK id), .int .i64 (fW id), .int .i64 (fM id), .int .i64 (fB id), .int .u64 (fT id), .int .u64 (fI id), .int .u64 (fN id)] 73)).mono hb1.size)
    clear hb1
    go_wp2_with fail
    refine (hsc.out _).mono ?_
    rintro e w2 ⟨A3, n3, c3, rfl, hT2, hb2⟩
    have hal := (Below.refl w2.heap.size w2).alloc (Nat.le_refl _) (.cells #[.int .i64 1, .bool false, .slice A3 n3 c3, .int .i64 k, .int .i64 1, .bool cut] 76)
    have hB2 := (hB.trans (hb2.mono hB.size)).trans (hal.mono (Nat.le_trans hB.size hb2.size))
    have hp2 := pBlk_st _ _ _ _ _ (pBlk_st _ _ _ _ _ hp1 hb2) hal
    have hI := pBlk_made w2 #[.int .i64 1, .bool false, .slice A3 n3 c3, .int .i64 k, .int .i64 1, .bool cut] 76
    have hT := IsT.below hT2 hal
    clear hb2 hB hp1 hal hT2
    obtain ⟨q0, q1, q2, q3, q4, q5, q6⟩ := cells7R hp2
    obtain ⟨i0, i1, i2, i3, i4, i5⟩ := pBlk_cells6 hI
    have ql := hp2.lt
    have il := hI.lt
    have hBV := hB2
    have hTV := hT
    have hI3 := hI
    have hal := (Below.refl (w2.alloc (.cells #[.int .i64 1, .bool false, .slice A3 n3 c3, .int .i64 k, .int .i64 1, .bool cut] 76)).heap.size (w2.alloc (.cells #[.int .i64 1, .bool false, .slice A3 n3 c3, .int .i64 k, .int .i64 1, .bool cut] 76))).alloc (Nat.le_refl _) (.cells #[.bool false, .slice A3 n3 c3, .int .i64 k, .int .i64 k] 71)
    have hal2 := (Below.refl ((w2.alloc (.cells #[.int .i64 1, .bool false, .slice A3 n3 c3, .int .i64 k, .int .i64 1, .bool cut] 76)).alloc (.cells #[.bool false, .slice A3 n3 c3, .int .i64 k, .int .i64 k] 71)).heap.size ((w2.alloc (.cells #[.int .i64 1, .bool false, .slice A3 n3 c3, .int .i64 k, .int .i64 1, .bool cut] 76)).alloc (.cells #[.bool false, .slice A3 n3 c3, .int .i64 k, .int .i64 k] 71))).alloc (Nat.le_refl _) (.cells #[.int .u64 1] 22)
    have hr2 := pBlk_st _ _ _ _ _ (pBlk_made (w2.alloc (.cells #[.int .i64 1, .bool false, .slice A3 n3 c3, .int .i64 k, .int .i64 1, .bool cut] 76)) #[.bool false, .slice A3 n3 c3, .int .i64 k, .int .i64 k] 71) hal2
    have hB5 := hBV.trans ((hal.trans (hal2.mono hal.size)).mono hBV.size)
    have hO := one_t ((w2.alloc (.cells #[.int .i64 1, .bool false, .slice A3 n3 c3, .int .i64 k, .int .i64 1, .bool cut] 76)).alloc (.cells #[.bool false, .slice A3 n3 c3, .int .i64 k, .int .i64 k] 71))
    rw [show ((w2.alloc (.cells #[.int .i64 1, .bool false, .slice A3 n3 c3, .int .i64 k, .int .i64 1, .bool cut] 76)).alloc (.cells #[.bool false, .slice A3 n3 c3, .int .i64 k, .int .i64 k] 71)).heap.size = w2.heap.size + 1 + 1 by simp] at hO
    have hsz := hBV.size
    rw [show (w2.alloc (.cells #[.int .i64 1, .bool false, .slice A3 n3 c3, .int .i64 k, .int .i64 1, .bool cut] 76)).heap.size = w2.heap.size + 1 by simp] at hr2 hsz
    clear hal hal2 hTV hBV
    go_wp2_with (first | ((with_reducible show wpList _ _ _ (Oper.mk _ (Op.store _ _ _) _ _ _ _ :: _) _ _); refine wpList_store_rowE _ rfl 71 _ _ rfl (w2.heap.size + 1) #[.bool false, .slice (some ⟨w2.heap.size + 1 + 1, 0, none⟩) 1 1, .int .i64 1000, .int .i64 1000] #[.bool false, .slice A3 n3 c3, .int .i64 k, .int .i64 k] 71 rfl rfl hr2 exactr_size rfl (by simp [Value.oneCell']) ?_; obtain ⟨w5, hw5⟩ : ∃ w5, World.setRow (((w2.alloc (.cells #[.int .i64 1, .bool false, .slice A3 n3 c3, .int .i64 k, .int .i64 1, .bool cut] 76)).alloc (.cells #[.bool false, .slice A3 n3 c3, .int .i64 k, .int .i64 k] 71)).alloc (.cells #[.int .u64 1] 22)) (w2.heap.size + 1) #[.bool false, .slice (some ⟨w2.heap.size + 1 + 1, 0, none⟩) 1 1, .int .i64 1000, .int .i64 1000] = w5 := ⟨_, rfl⟩; have hp5 : pBlk (w2.heap.size + 1) #[.bool false, .slice (some ⟨w2.heap.size + 1 + 1, 0, none⟩) 1 1, .int .i64 1000, .int .i64 1000] 71 w5 := (by rw [← hw5]; exact setRow_heap _ _ _ _ _ _ hr2); have hO5 : IsT w5 (.slice (some ⟨w2.heap.size + 1 + 1, 0, none⟩) 1 1) 1 1 := (by rw [← hw5]; exact isT_row hO (by omega)); have hB6 : Below w.heap.size w w5 := (by rw [← hw5]; exact below_setRow hB5 hsz _); rw [hw5]; obtain ⟨r0, r1, r2, r3⟩ := cells4E hp5; have rl := hp5.lt; clear hw5 hr2 hO hB5 q0 q1 q2 q3 q4 q5 q6 i0 i1 i2 i3 i4 i5 ql il))
    refine (hrd.out _ _ _ _ hO5).mono ?_
    rintro e w6 ⟨rfl, hb6⟩
    have hfin := hB6.trans (hb6.mono hB6.size)
    go_wp2
    all_goals exact bodyPost_ret (v := .tuple #[.int .u64 rp, .int .i64 0, .int .i64 0]) (by simp [results, Tryz.results14, go_sem]) rfl ⟨rfl, hfin⟩
set_option maxRecDepth 100000 in
set_option maxHeartbeats 4000000 in
theorem rparse_nm_false (id mode : Int) (l : List UInt8) (h1 : 1 ≤ id) (h2 : id < 15) (hm : ¬ (mode ≠ 1 ∧ mode ≠ 2)) (d : Nat) (k : Int) (cut : Bool) (hs : ScanN l false d k (-1) cut) (w : World) : Calls Tryz.prog 14 #[.int .i64 id, .int .i64 mode, .string (strL l)] w fun e w' => e = .returned (.tuple #[.int .u64 (roundP id mode false (exP 1 (-1000) (-1000)) (exQ (-1000) (-1000))), .int .i64 0, .int .i64 0]) ∧ Below w.heap.size w w' := by
  have hE : roundE id mode = 0 := by unfold roundE; rw [if_neg (by omega), if_neg hm]
  have hof := Lib.hid fun w => rof_yes id w h1 h2
  have hsg := Lib.hid fun w => rsgn_any id h1 h2 w
  have hsc := Lib.hid hs
  have hrd := Lib.hid (fun (W : World) A n c (hv : IsT W (.slice A n c) 1 1) => rround8_any id mode hE false (-1000) (-1000) W hv (by decide) (by decide) (by decide))
  generalize roundP id mode false (exP 1 (-1000) (-1000)) (exQ (-1000) (-1000)) = rp at hrd ⊢
  clear h1 h2 hs hE
  rcases rmode_two hm with m1 | ⟨m1, m2⟩
  all_goals
    clear hm
    skip
    go_enter Tryz.func14, Tryz.ntmps14
    go_wp2_with fail
    refine (hof.out _).mono ?_
    rintro e w1 ⟨rfl, hb1⟩
    have hp1 := pBlk_made w1 #[.int .i64 (fK id), .int .i64 (fW id), .int .i64 (fM id), .int .i64 (fB id), .int .u64 (fT id), .int .u64 (fI id), .int .u64 (fN id)] 73
    have hB := hb1.trans (((Below.refl w1.heap.size w1).alloc (Nat.le_refl _) (.cells #[.int .i64 (fK id), .int .i64 (fW id), .int .i64 (fM id), .int .i64 (fB id), .int .u64 (fT id), .int .u64 (fI id), .int .u64 (fN id)] 73)).mono hb1.size)
    clear hb1
    go_wp2_with fail
    refine (hsc.out _).mono ?_
    rintro e w2 ⟨A3, n3, c3, rfl, hT2, hb2⟩
    have hal := (Below.refl w2.heap.size w2).alloc (Nat.le_refl _) (.cells #[.int .i64 1, .bool false, .slice A3 n3 c3, .int .i64 k, .int .i64 (-1), .bool cut] 76)
    have hB2 := (hB.trans (hb2.mono hB.size)).trans (hal.mono (Nat.le_trans hB.size hb2.size))
    have hp2 := pBlk_st _ _ _ _ _ (pBlk_st _ _ _ _ _ hp1 hb2) hal
    have hI := pBlk_made w2 #[.int .i64 1, .bool false, .slice A3 n3 c3, .int .i64 k, .int .i64 (-1), .bool cut] 76
    have hT := IsT.below hT2 hal
    clear hb2 hB hp1 hal hT2
    obtain ⟨q0, q1, q2, q3, q4, q5, q6⟩ := cells7R hp2
    obtain ⟨i0, i1, i2, i3, i4, i5⟩ := pBlk_cells6 hI
    have ql := hp2.lt
    have il := hI.lt
    have hBV := hB2
    have hTV := hT
    have hI3 := hI
    have hal := (Below.refl (w2.alloc (.cells #[.int .i64 1, .bool false, .slice A3 n3 c3, .int .i64 k, .int .i64 (-1), .bool cut] 76)).heap.size (w2.alloc (.cells #[.int .i64 1, .bool false, .slice A3 n3 c3, .int .i64 k, .int .i64 (-1), .bool cut] 76))).alloc (Nat.le_refl _) (.cells #[.bool false, .slice A3 n3 c3, .int .i64 k, .int .i64 k] 71)
    have hal2 := (Below.refl ((w2.alloc (.cells #[.int .i64 1, .bool false, .slice A3 n3 c3, .int .i64 k, .int .i64 (-1), .bool cut] 76)).alloc (.cells #[.bool false, .slice A3 n3 c3, .int .i64 k, .int .i64 k] 71)).heap.size ((w2.alloc (.cells #[.int .i64 1, .bool false, .slice A3 n3 c3, .int .i64 k, .int .i64 (-1), .bool cut] 76)).alloc (.cells #[.bool false, .slice A3 n3 c3, .int .i64 k, .int .i64 k] 71))).alloc (Nat.le_refl _) (.cells #[.int .u64 1] 22)
    have hr2 := pBlk_st _ _ _ _ _ (pBlk_made (w2.alloc (.cells #[.int .i64 1, .bool false, .slice A3 n3 c3, .int .i64 k, .int .i64 (-1), .bool cut] 76)) #[.bool false, .slice A3 n3 c3, .int .i64 k, .int .i64 k] 71) hal2
    have hB5 := hBV.trans ((hal.trans (hal2.mono hal.size)).mono hBV.size)
    have hO := one_t ((w2.alloc (.cells #[.int .i64 1, .bool false, .slice A3 n3 c3, .int .i64 k, .int .i64 (-1), .bool cut] 76)).alloc (.cells #[.bool false, .slice A3 n3 c3, .int .i64 k, .int .i64 k] 71))
    rw [show ((w2.alloc (.cells #[.int .i64 1, .bool false, .slice A3 n3 c3, .int .i64 k, .int .i64 (-1), .bool cut] 76)).alloc (.cells #[.bool false, .slice A3 n3 c3, .int .i64 k, .int .i64 k] 71)).heap.size = w2.heap.size + 1 + 1 by simp] at hO
    have hsz := hBV.size
    rw [show (w2.alloc (.cells #[.int .i64 1, .bool false, .slice A3 n3 c3, .int .i64 k, .int .i64 (-1), .bool cut] 76)).heap.size = w2.heap.size + 1 by simp] at hr2 hsz
    clear hal hal2 hTV hBV
    go_wp2_with (first | ((with_reducible show wpList _ _ _ (Oper.mk _ (Op.store _ _ _) _ _ _ _ :: _) _ _); refine wpList_store_rowE _ rfl 71 _ _ rfl (w2.heap.size + 1) #[.bool false, .slice (some ⟨w2.heap.size + 1 + 1, 0, none⟩) 1 1, .int .i64 (-1000), .int .i64 (-1000)] #[.bool false, .slice A3 n3 c3, .int .i64 k, .int .i64 k] 71 rfl rfl hr2 exactr_size rfl (by simp [Value.oneCell']) ?_; obtain ⟨w5, hw5⟩ : ∃ w5, World.setRow (((w2.alloc (.cells #[.int .i64 1, .bool false, .slice A3 n3 c3, .int .i64 k, .int .i64 (-1), .bool cut] 76)).alloc (.cells #[.bool false, .slice A3 n3 c3, .int .i64 k, .int .i64 k] 71)).alloc (.cells #[.int .u64 1] 22)) (w2.heap.size + 1) #[.bool false, .slice (some ⟨w2.heap.size + 1 + 1, 0, none⟩) 1 1, .int .i64 (-1000), .int .i64 (-1000)] = w5 := ⟨_, rfl⟩; have hp5 : pBlk (w2.heap.size + 1) #[.bool false, .slice (some ⟨w2.heap.size + 1 + 1, 0, none⟩) 1 1, .int .i64 (-1000), .int .i64 (-1000)] 71 w5 := (by rw [← hw5]; exact setRow_heap _ _ _ _ _ _ hr2); have hO5 : IsT w5 (.slice (some ⟨w2.heap.size + 1 + 1, 0, none⟩) 1 1) 1 1 := (by rw [← hw5]; exact isT_row hO (by omega)); have hB6 : Below w.heap.size w w5 := (by rw [← hw5]; exact below_setRow hB5 hsz _); rw [hw5]; obtain ⟨r0, r1, r2, r3⟩ := cells4E hp5; have rl := hp5.lt; clear hw5 hr2 hO hB5 q0 q1 q2 q3 q4 q5 q6 i0 i1 i2 i3 i4 i5 ql il))
    refine (hrd.out _ _ _ _ hO5).mono ?_
    rintro e w6 ⟨rfl, hb6⟩
    have hfin := hB6.trans (hb6.mono hB6.size)
    go_wp2
    all_goals exact bodyPost_ret (v := .tuple #[.int .u64 rp, .int .i64 0, .int .i64 0]) (by simp [results, Tryz.results14, go_sem]) rfl ⟨rfl, hfin⟩
end Go.Proofs.YtncfbleeidjflaaGreatDoor
namespace Go.Proofs.YtncfbleeidjflaaGreatDoor
open Go.RowKit Go.Cal
theorem scanW_of (l : List UInt8) (it : Cal.Item) (hok : (textS l).1 = true) (hit : textV CR l = it) (hl : l.length ≤ 100000) (K : Int) (hK : ((it.kind : Nat) : Int) = K) : ScanW l K it.neg := fun w => by
  refine (rscan_yes l it hok hit hl w).mono ?_
  rintro e w' ⟨A, n, c, rfl, -, hb⟩
  exact ⟨A, n, c, it.k, it.big, it.cut, by rw [hK], hb⟩
theorem scanN_of (l : List UInt8) (it : Cal.Item) (hok : (textS l).1 = true) (hit : textV CR l = it) (hl : l.length ≤ 100000) (hK : it.kind = 1) : ScanN l it.neg it.d it.k it.big it.cut := fun w => by
  refine (rscan_yes l it hok hit hl w).mono ?_
  rintro e w' ⟨A, n, c, rfl, hv, hb⟩
  refine ⟨A, n, c, by rw [hK]; rfl, ?_, hb⟩
  obtain ⟨A', c', zs, he, r1, r2, r3, r4, r5, -⟩ := hv
  have : Value.slice A n c = .slice A' zs.length c' := by
    injection he with he
    have := congrArg (fun a : Array Value => a.getD 2 (.bool false)) he
    simpa using this
  rw [this]
  exact ⟨A', c', zs, rfl, r1, r2, r3, r4, r5⟩
theorem rparse_any (id mode : Int) (l : List UInt8) (hl : l.length ≤ 3000) (w : World) :
    Calls Tryz.prog 14 #[.int .i64 id, .int .i64 mode, .string (strL l)] w fun e w' => e = .returned (.tuple #[.int .u64 (parV id mode l).1, .int .i64 (parV id mode l).2.1, .int .i64 (parV id mode l).2.2]) ∧ Below w.heap.size w w' := by
  by_cases hid : id < 1 ∨ 15 ≤ id
  · have hE : roundE id mode = 3 := by unfold roundE; rw [if_pos hid]
    have hV : parV id mode l = (0, 0, 3) := by unfold parV; rw [if_pos (by rw [hE]; decide), hE]
    rw [hV]
    exact rparse_form id mode (strL l) hid w
  have h1 : 1 ≤ id := by omega
  have h2 : id < 15 := by omega
  by_cases hm : mode ≠ 1 ∧ mode ≠ 2
  · have hE : roundE id mode = 1 := by unfold roundE; rw [if_neg hid, if_pos hm]
    have hV : parV id mode l = (0, 0, 1) := by unfold parV; rw [if_pos (by rw [hE]; decide), hE]
    rw [hV]
    exact rparse_mode id mode (strL l) h1 h2 (by simp [hm.1]) (by simp [hm.2]) w
  have hE : roundE id mode = 0 := by unfold roundE; rw [if_neg hid, if_neg hm]
  cases ht : (textS l).1 with
  | false =>
    have hV : parV id mode l = (0, (((textS l).2 : Nat) : Int), 2) := by unfold parV; rw [if_neg (by rw [hE]; decide), if_pos ht]
    rw [hV]
    exact rparse_bad id mode l (by omega) _ ht rfl h1 h2 hm w
  | true =>
    have hV : parV id mode l = parI id mode (textV 1125899906842624 l) := by unfold parV; rw [if_neg (by rw [hE]; decide), if_neg (by rw [ht]; decide)]
    rw [hV]
    have hit := text_item 1125899906842624 l
    have hcap := textV_cap l hl
    obtain ⟨it, hitE⟩ : ∃ it, textV 1125899906842624 l = it := ⟨_, rfl⟩
    rw [hitE] at hit hcap ⊢
    clear hitE hV
    unfold parI
    have hw := fun K hK => scanW_of l it ht hcap (by omega) K hK
    have hn := fun hK => scanN_of l it ht hcap (by omega) hK
    clear ht hcap
    obtain ⟨kd, ng, d, k, big, cut⟩ := it
    simp only at hw hn hit ⊢
    rcases hit with ⟨hk, hok⟩ | hk
    · rw [if_pos hk]
      subst hk
      have hsN := hn rfl
      have hb := hok.big
      have hnum := hok.num
      simp only [numN, numX] at hb hnum hsN ⊢
      clear hw hn hok
      rcases hb with rfl | rfl | rfl
      · have hkb := (hnum rfl).2
        cases ng
        · exact rparse_n0_false id mode l h1 h2 hm d k cut hsN hkb w
        · exact rparse_n0_true id mode l h1 h2 hm d k cut hsN hkb w
      · cases ng
        · exact rparse_np_false id mode l h1 h2 hm d k cut hsN w
        · exact rparse_np_true id mode l h1 h2 hm d k cut hsN w
      · cases ng
        · exact rparse_nm_false id mode l h1 h2 hm d k cut hsN w
        · exact rparse_nm_true id mode l h1 h2 hm d k cut hsN w
    · have hk1 : kd ≠ 1 := by omega
      rw [if_neg hk1]
      clear hn
      rcases hk with rfl | rfl | rfl
      · have hsW := hw 2 rfl
        clear hw
        by_cases b : fI id = 0
        · have hwb : wordB id ((2 : Nat) : Int) ng = false := by simp [wordB, b]
          rw [hwb, if_neg (by decide)]
          cases ng
          · exact rparse_2n_false id mode l h1 h2 hm hsW (by simp [b]) w
          · exact rparse_2n_true id mode l h1 h2 hm hsW (by simp [b]) w
        · have hwb : wordB id ((2 : Nat) : Int) ng = true := by simp [wordB, b]
          rw [hwb, if_pos rfl]
          have hor := word_or h1 h2 ng (by simp [b])
          cases ng
          · rw [if_neg (by decide)] at hor
            have := rparse_2y_false id mode l h1 h2 hm hsW (by simp [b]) w
            rw [hor] at this
            exact this
          · rw [if_pos rfl] at hor
            have := rparse_2y_true id mode l h1 h2 hm hsW (by simp [b]) w
            rw [hor] at this
            exact this
      · have hsW := hw 3 rfl
        clear hw
        by_cases b : (fK id == 1) = true ∨ (fK id == 1) = false ∧ (fN id == 0) = true
        · have hwb : wordB id ((3 : Nat) : Int) ng = false := by
            rcases b with b | ⟨b, b'⟩
            · have : fK id = 1 := by simpa using b
              simp [wordB, this]
            · have : fN id = 0 := by simpa using b'
              simp [wordB, this]
          rw [hwb, if_neg (by decide)]
          cases ng
          · exact rparse_3n_false id mode l h1 h2 hm hsW b w
          · exact rparse_3n_true id mode l h1 h2 hm hsW b w
        · have b1 : (fK id == 1) = false := by cases h : (fK id == 1) with | false => rfl | true => exact absurd (.inl h) b
          have b2 : (fN id == 0) = false := by cases h : (fN id == 0) with | false => rfl | true => exact absurd (.inr ⟨b1, h⟩) b
          have k1 : ¬ fK id = 1 := by simpa using b1
          have k2 : ¬ fN id = 0 := by simpa using b2
          have hwb : wordB id ((3 : Nat) : Int) ng = true := by simp [wordB, k1, k2]
          have hwp : wordP id ((3 : Nat) : Int) ng = fN id := by simp [wordP]
          rw [hwb, if_pos rfl, hwp]
          cases ng
          · exact rparse_3y_false id mode l h1 h2 hm hsW b1 b2 w
          · exact rparse_3y_true id mode l h1 h2 hm hsW b1 b2 w
      · have hsW := hw 4 rfl
        clear hw
        cases ng with
        | true =>
          have hwb : wordB id ((4 : Nat) : Int) true = false := by simp [wordB]
          rw [hwb, if_neg (by decide)]
          exact rparse_4n_true id mode l h1 h2 hm hsW (by cases (fK id == 1) <;> simp) w
        | false =>
          by_cases b : fK id = 1
          · have hwb : wordB id ((4 : Nat) : Int) false = true := by simp [wordB, b]
            have hwp : wordP id ((4 : Nat) : Int) false = fN id := by simp [wordP]
            rw [hwb, if_pos rfl, hwp]
            exact rparse_4y_false id mode l h1 h2 hm hsW (by simp [b]) w
          · have hwb : wordB id ((4 : Nat) : Int) false = false := by simp [wordB, b]
            rw [hwb, if_neg (by decide)]
            exact rparse_4n_false id mode l h1 h2 hm hsW (by simp [b]) w
end Go.Proofs.YtncfbleeidjflaaGreatDoor
