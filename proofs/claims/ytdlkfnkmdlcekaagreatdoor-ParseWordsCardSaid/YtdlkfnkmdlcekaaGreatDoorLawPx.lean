/- The law ParseWords, walked: the second mode; whole. Conditions: the variables that values read. -/
import Derived.Test.YtdlkfnkmdlcekaaGreatDoorLawPw
namespace Go.Proofs.YtdlkfnkmdlcekaaGreatDoor
open Go.RowKit Go.Cal
set_option maxRecDepth 100000 in
set_option maxHeartbeats 8000000 in
theorem words_goodB (id mode wh : Int) (neg : Bool) (w : World) (hW : VaW w) (h1 : 1 ≤ id) (h2 : id < 15) (hm : mode = 1 ∨ mode = 2) (m1 : (mode != 1) = true) (m2 : (mode != 2) = false) : Calls Tryz.prog 6 #[.int .i64 id, .int .i64 mode, .int .i64 wh, .bool neg] w fun e w' => e = .returned (.bool true) ∧ Below w.heap.size w w' := by
  have hsh := Lib.hid fun w hW => pshown_any w hW
  have hL := LiveP.start w
  obtain ⟨m0, hm0, hm1⟩ := and_low wh
  obtain ⟨q, hq⟩ : ∃ q, m0 % 3 = q := ⟨_, rfl⟩
  obtain ⟨v1, v2⟩ := parw q (by omega) id mode
  rw [pwV_pos h1 h2 hm] at v1 v2
  clear hm
  have hof := Lib.hid fun w (hW : VaW w) => fo_of id w hW.frm h1 h2
  have hsg := Lib.hid fun w => fo_sgn id h1 h2 w
  have hsum := Lib.hid fun h => inf_sum h1 h2 h
  rcases fo_kinds h1 h2 with ⟨b1, b2, b3, b4⟩ | ⟨b1, b2, b3, b4⟩ | ⟨b1, b2, b3, b4⟩ | ⟨b1, b2, b3, b4⟩
  · obtain rfl | rfl | rfl : q = 0 ∨ q = 1 ∨ q = 2 := by omega
    · have hqi : (m0 : Int) % 3 = 0 := by omega
      cases neg
      ·
        have hv : parV id mode [105, 110, 102] = (0, 0, 5) := pw_no (kd := 2) v1 (b1) rfl
        go_enter Tryz.func6, Tryz.ntmps6
        go_wp2_with fail
        refine (hsh.out _ hW).mono ?_
        rintro e w1 ⟨rfl, hb⟩
        have hL1 := hL.go hb
        go_wp2_with fail
        refine (ptext_is id mode [105, 110, 102] _ 0 0 5 (by first | rfl | kernel_rfl) (by decide) hv (hW.below (hL1.go ((Below.refl _ _).alloc (Nat.le_refl _) _)).below)).mono ?_
        rintro e w2 ⟨rfl, hb2⟩
        have hL2 := (hL1.go ((Below.refl _ _).alloc (Nat.le_refl _) _)).go hb2
        go_wp2_with fail
        refine (hof.out _ (hW.below hL2.below)).mono ?_
        rintro e w3 ⟨rfl, hb3⟩
        have hL3 := hL2.go hb3
        go_wp2
        go_ret
        exact ⟨rfl, (hL3.go (((Below.refl _ _).alloc (Nat.le_refl _) _).alloc (by simp) _)).below⟩
      ·
        have hv : parV id mode [45, 105, 110, 102] = (0, 1, 5) := pw_no (kd := 2) v2 (b1) rfl
        go_enter Tryz.func6, Tryz.ntmps6
        go_wp2_with fail
        refine (hsh.out _ hW).mono ?_
        rintro e w1 ⟨rfl, hb⟩
        have hL1 := hL.go hb
        go_wp2_with fail
        refine (ptext_is id mode [45, 105, 110, 102] _ 0 1 5 (by first | rfl | kernel_rfl) (by decide) hv (hW.below (hL1.go ((Below.refl _ _).alloc (Nat.le_refl _) _)).below)).mono ?_
        rintro e w2 ⟨rfl, hb2⟩
        have hL2 := (hL1.go ((Below.refl _ _).alloc (Nat.le_refl _) _)).go hb2
        go_wp2_with fail
        refine (hof.out _ (hW.below hL2.below)).mono ?_
        rintro e w3 ⟨rfl, hb3⟩
        have hL3 := hL2.go hb3
        go_wp2
        go_ret
        exact ⟨rfl, (hL3.go (((Below.refl _ _).alloc (Nat.le_refl _) _).alloc (by simp) _)).below⟩
    · have hqi : (m0 : Int) % 3 = 1 := by omega
      cases neg
      ·
        have hv : parV id mode [110, 97, 110] = (0, 0, 5) := pw_no (kd := 3) v1 (wordB_nanX b2 b4) rfl
        go_enter Tryz.func6, Tryz.ntmps6
        go_wp2_with fail
        refine (hsh.out _ hW).mono ?_
        rintro e w1 ⟨rfl, hb⟩
        have hL1 := hL.go hb
        go_wp2_with fail
        refine (ptext_is id mode [110, 97, 110] _ 0 0 5 (by first | rfl | kernel_rfl) (by decide) hv (hW.below (hL1.go ((Below.refl _ _).alloc (Nat.le_refl _) _)).below)).mono ?_
        rintro e w2 ⟨rfl, hb2⟩
        have hL2 := (hL1.go ((Below.refl _ _).alloc (Nat.le_refl _) _)).go hb2
        go_wp2_with fail
        refine (hof.out _ (hW.below hL2.below)).mono ?_
        rintro e w3 ⟨rfl, hb3⟩
        have hL3 := hL2.go hb3
        go_wp2
        go_ret
        exact ⟨rfl, (hL3.go (((Below.refl _ _).alloc (Nat.le_refl _) _).alloc (by simp) _)).below⟩
      ·
        have hv : parV id mode [45, 110, 97, 110] = (0, 1, 5) := pw_no (kd := 3) v2 (wordB_nanX b2 b4) rfl
        go_enter Tryz.func6, Tryz.ntmps6
        go_wp2_with fail
        refine (hsh.out _ hW).mono ?_
        rintro e w1 ⟨rfl, hb⟩
        have hL1 := hL.go hb
        go_wp2_with fail
        refine (ptext_is id mode [45, 110, 97, 110] _ 0 1 5 (by first | rfl | kernel_rfl) (by decide) hv (hW.below (hL1.go ((Below.refl _ _).alloc (Nat.le_refl _) _)).below)).mono ?_
        rintro e w2 ⟨rfl, hb2⟩
        have hL2 := (hL1.go ((Below.refl _ _).alloc (Nat.le_refl _) _)).go hb2
        go_wp2_with fail
        refine (hof.out _ (hW.below hL2.below)).mono ?_
        rintro e w3 ⟨rfl, hb3⟩
        have hL3 := hL2.go hb3
        go_wp2
        go_ret
        exact ⟨rfl, (hL3.go (((Below.refl _ _).alloc (Nat.le_refl _) _).alloc (by simp) _)).below⟩
    · have hqi : (m0 : Int) % 3 = 2 := by omega
      cases neg
      ·
        have hb : wordB id 4 false = true := wordB_narX b4
        have hv : parV id mode [78, 97, 82] = (fN id, 0, 0) := pw_yes (kd := 4) v1 hb rfl
        have hcn := word_is id (fN id) h1 h2 4 false (by decide) hb rfl
        clear hb
        go_enter Tryz.func6, Tryz.ntmps6
        go_wp2_with fail
        refine (hsh.out _ hW).mono ?_
        rintro e w1 ⟨rfl, hb⟩
        have hL1 := hL.go hb
        go_wp2_with fail
        refine (ptext_is id mode [78, 97, 82] _ (fN id) 0 0 (by first | rfl | kernel_rfl) (by decide) hv (hW.below (hL1.go ((Below.refl _ _).alloc (Nat.le_refl _) _)).below)).mono ?_
        rintro e w2 ⟨rfl, hb2⟩
        have hL2 := (hL1.go ((Below.refl _ _).alloc (Nat.le_refl _) _)).go hb2
        go_wp2_with fail
        refine (hof.out _ (hW.below hL2.below)).mono ?_
        rintro e w3 ⟨rfl, hb3⟩
        have hL3 := hL2.go hb3
        go_wp2_with fail
        refine (hcn _ (hW.below (hL3.go (((Below.refl _ _).alloc (Nat.le_refl _) _).alloc (by simp) _)).below)).mono ?_
        rintro e w4 ⟨rfl, hb4⟩
        go_wp2
        go_ret
        exact ⟨by first | rfl | simp, ((hL3.go (((Below.refl _ _).alloc (Nat.le_refl _) _).alloc (by simp) _)).go hb4).below⟩
      ·
        have hv : parV id mode [45, 78, 97, 82] = (0, 1, 5) := pw_no (kd := 4) v2 (wordB_narX b4) rfl
        go_enter Tryz.func6, Tryz.ntmps6
        go_wp2_with fail
        refine (hsh.out _ hW).mono ?_
        rintro e w1 ⟨rfl, hb⟩
        have hL1 := hL.go hb
        go_wp2_with fail
        refine (ptext_is id mode [45, 78, 97, 82] _ 0 1 5 (by first | rfl | kernel_rfl) (by decide) hv (hW.below (hL1.go ((Below.refl _ _).alloc (Nat.le_refl _) _)).below)).mono ?_
        rintro e w2 ⟨rfl, hb2⟩
        have hL2 := (hL1.go ((Below.refl _ _).alloc (Nat.le_refl _) _)).go hb2
        go_wp2_with fail
        refine (hof.out _ (hW.below hL2.below)).mono ?_
        rintro e w3 ⟨rfl, hb3⟩
        have hL3 := hL2.go hb3
        go_wp2
        go_ret
        exact ⟨rfl, (hL3.go (((Below.refl _ _).alloc (Nat.le_refl _) _).alloc (by simp) _)).below⟩
  · obtain rfl | rfl | rfl : q = 0 ∨ q = 1 ∨ q = 2 := by omega
    · have hqi : (m0 : Int) % 3 = 0 := by omega
      cases neg
      ·
        have hb : wordB id 2 false = true := b1
        have hv : parV id mode [105, 110, 102] = (fI id, 0, 0) := pw_yes (kd := 2) v1 hb rfl
        have hcn := word_is id (fI id) h1 h2 2 false (by decide) hb rfl
        clear hb
        go_enter Tryz.func6, Tryz.ntmps6
        go_wp2_with fail
        refine (hsh.out _ hW).mono ?_
        rintro e w1 ⟨rfl, hb⟩
        have hL1 := hL.go hb
        go_wp2_with fail
        refine (ptext_is id mode [105, 110, 102] _ (fI id) 0 0 (by first | rfl | kernel_rfl) (by decide) hv (hW.below (hL1.go ((Below.refl _ _).alloc (Nat.le_refl _) _)).below)).mono ?_
        rintro e w2 ⟨rfl, hb2⟩
        have hL2 := (hL1.go ((Below.refl _ _).alloc (Nat.le_refl _) _)).go hb2
        go_wp2_with fail
        refine (hof.out _ (hW.below hL2.below)).mono ?_
        rintro e w3 ⟨rfl, hb3⟩
        have hL3 := hL2.go hb3
        go_wp2_with fail
        refine (hcn _ (hW.below (hL3.go (((Below.refl _ _).alloc (Nat.le_refl _) _).alloc (by simp) _)).below)).mono ?_
        rintro e w4 ⟨rfl, hb4⟩
        go_wp2
        go_ret
        exact ⟨by first | rfl | simp, ((hL3.go (((Below.refl _ _).alloc (Nat.le_refl _) _).alloc (by simp) _)).go hb4).below⟩
      ·
        have hb : wordB id 2 true = true := b1
        have hv : parV id mode [45, 105, 110, 102] = (fI id + 2 ^ ((fW id).toNat - 1), 0, 0) := pw_yes (kd := 2) v2 hb rfl
        have hcn := word_is id (fI id + 2 ^ ((fW id).toNat - 1)) h1 h2 2 true (by decide) hb rfl
        clear hb
        go_enter Tryz.func6, Tryz.ntmps6
        go_wp2_with fail
        refine (hsh.out _ hW).mono ?_
        rintro e w1 ⟨rfl, hb⟩
        have hL1 := hL.go hb
        go_wp2_with fail
        refine (ptext_is id mode [45, 105, 110, 102] _ (fI id + 2 ^ ((fW id).toNat - 1)) 0 0 (by first | rfl | kernel_rfl) (by decide) hv (hW.below (hL1.go ((Below.refl _ _).alloc (Nat.le_refl _) _)).below)).mono ?_
        rintro e w2 ⟨rfl, hb2⟩
        have hL2 := (hL1.go ((Below.refl _ _).alloc (Nat.le_refl _) _)).go hb2
        go_wp2_with fail
        refine (hof.out _ (hW.below hL2.below)).mono ?_
        rintro e w3 ⟨rfl, hb3⟩
        have hL3 := hL2.go hb3
        have c0 := fun (u : Later (w3.heap.size + 2) ((w3.alloc (.cells #[.int .i64 (fK id), .int .i64 (fW id), .int .i64 (fM id), .int .i64 (fB id), .int .u64 (fT id), .int .u64 (fI id), .int .u64 (fN id)] 39)).alloc (.cells #[.bool true, .bool true, .bool false] 4))) => u.cell w3.heap.size 0 (.int .i64 (fK id)) (by omega) (by simp)
        have c1 := fun (u : Later (w3.heap.size + 2) ((w3.alloc (.cells #[.int .i64 (fK id), .int .i64 (fW id), .int .i64 (fM id), .int .i64 (fB id), .int .u64 (fT id), .int .u64 (fI id), .int .u64 (fN id)] 39)).alloc (.cells #[.bool true, .bool true, .bool false] 4))) => u.cell w3.heap.size 1 (.int .i64 (fW id)) (by omega) (by simp)
        have c2 := fun (u : Later (w3.heap.size + 2) ((w3.alloc (.cells #[.int .i64 (fK id), .int .i64 (fW id), .int .i64 (fM id), .int .i64 (fB id), .int .u64 (fT id), .int .u64 (fI id), .int .u64 (fN id)] 39)).alloc (.cells #[.bool true, .bool true, .bool false] 4))) => u.cell w3.heap.size 2 (.int .i64 (fM id)) (by omega) (by simp)
        have c3 := fun (u : Later (w3.heap.size + 2) ((w3.alloc (.cells #[.int .i64 (fK id), .int .i64 (fW id), .int .i64 (fM id), .int .i64 (fB id), .int .u64 (fT id), .int .u64 (fI id), .int .u64 (fN id)] 39)).alloc (.cells #[.bool true, .bool true, .bool false] 4))) => u.cell w3.heap.size 3 (.int .i64 (fB id)) (by omega) (by simp)
        have c4 := fun (u : Later (w3.heap.size + 2) ((w3.alloc (.cells #[.int .i64 (fK id), .int .i64 (fW id), .int .i64 (fM id), .int .i64 (fB id), .int .u64 (fT id), .int .u64 (fI id), .int .u64 (fN id)] 39)).alloc (.cells #[.bool true, .bool true, .bool false] 4))) => u.cell w3.heap.size 4 (.int .u64 (fT id)) (by omega) (by simp)
        have c5 := fun (u : Later (w3.heap.size + 2) ((w3.alloc (.cells #[.int .i64 (fK id), .int .i64 (fW id), .int .i64 (fM id), .int .i64 (fB id), .int .u64 (fT id), .int .u64 (fI id), .int .u64 (fN id)] 39)).alloc (.cells #[.bool true, .bool true, .bool false] 4))) => u.cell w3.heap.size 5 (.int .u64 (fI id)) (by omega) (by simp)
        have c6 := fun (u : Later (w3.heap.size + 2) ((w3.alloc (.cells #[.int .i64 (fK id), .int .i64 (fW id), .int .i64 (fM id), .int .i64 (fB id), .int .u64 (fT id), .int .u64 (fI id), .int .u64 (fN id)] 39)).alloc (.cells #[.bool true, .bool true, .bool false] 4))) => u.cell w3.heap.size 6 (.int .u64 (fN id)) (by omega) (by simp)
        have hX := hL3.go (((Below.refl _ _).alloc (Nat.le_refl _) (.cells #[.int .i64 (fK id), .int .i64 (fW id), .int .i64 (fM id), .int .i64 (fB id), .int .u64 (fT id), .int .u64 (fI id), .int .u64 (fN id)] 39)).alloc (by simp) (.cells #[.bool true, .bool true, .bool false] 4))
        go_wp2_with fail
        refine wp_region_later (B := w3.heap.size + 2) (by kernel_rfl) (by kernel_rfl) (Below.refl _ _) ?_
        repeat (go_big_quiet_step ((go_at_call 22; exact Calls.later_of (by simp) (hsg.out _))))
        refine wpQuiet_nil ?_
        intro w4 hb4
        have hL4 := hX.go (hb4.mono (by simp))
        clear c0 c1 c2 c3 c4 c5 c6
        have hs2 := hsum.out (by simpa using b1)
        go_wp2_with fail
        refine (hcn _ (hW.below hL4.below)).mono ?_
        rintro e w5 ⟨rfl, hb5⟩
        go_wp2
        go_ret
        exact ⟨by first | rfl | simp, (hL4.go hb5).below⟩
    · have hqi : (m0 : Int) % 3 = 1 := by omega
      cases neg
      ·
        have hb : wordB id 3 false = true := wordB_nanX b2 b4
        have hv : parV id mode [110, 97, 110] = (fN id, 0, 0) := pw_yes (kd := 3) v1 hb rfl
        have hcn := word_is id (fN id) h1 h2 3 false (by decide) hb rfl
        clear hb
        go_enter Tryz.func6, Tryz.ntmps6
        go_wp2_with fail
        refine (hsh.out _ hW).mono ?_
        rintro e w1 ⟨rfl, hb⟩
        have hL1 := hL.go hb
        go_wp2_with fail
        refine (ptext_is id mode [110, 97, 110] _ (fN id) 0 0 (by first | rfl | kernel_rfl) (by decide) hv (hW.below (hL1.go ((Below.refl _ _).alloc (Nat.le_refl _) _)).below)).mono ?_
        rintro e w2 ⟨rfl, hb2⟩
        have hL2 := (hL1.go ((Below.refl _ _).alloc (Nat.le_refl _) _)).go hb2
        go_wp2_with fail
        refine (hof.out _ (hW.below hL2.below)).mono ?_
        rintro e w3 ⟨rfl, hb3⟩
        have hL3 := hL2.go hb3
        go_wp2_with fail
        refine (hcn _ (hW.below (hL3.go (((Below.refl _ _).alloc (Nat.le_refl _) _).alloc (by simp) _)).below)).mono ?_
        rintro e w4 ⟨rfl, hb4⟩
        go_wp2
        go_ret
        exact ⟨by first | rfl | simp, ((hL3.go (((Below.refl _ _).alloc (Nat.le_refl _) _).alloc (by simp) _)).go hb4).below⟩
      ·
        have hb : wordB id 3 true = true := wordB_nanX b2 b4
        have hv : parV id mode [45, 110, 97, 110] = (fN id, 0, 0) := pw_yes (kd := 3) v2 hb rfl
        have hcn := word_is id (fN id) h1 h2 3 true (by decide) hb rfl
        clear hb
        go_enter Tryz.func6, Tryz.ntmps6
        go_wp2_with fail
        refine (hsh.out _ hW).mono ?_
        rintro e w1 ⟨rfl, hb⟩
        have hL1 := hL.go hb
        go_wp2_with fail
        refine (ptext_is id mode [45, 110, 97, 110] _ (fN id) 0 0 (by first | rfl | kernel_rfl) (by decide) hv (hW.below (hL1.go ((Below.refl _ _).alloc (Nat.le_refl _) _)).below)).mono ?_
        rintro e w2 ⟨rfl, hb2⟩
        have hL2 := (hL1.go ((Below.refl _ _).alloc (Nat.le_refl _) _)).go hb2
        go_wp2_with fail
        refine (hof.out _ (hW.below hL2.below)).mono ?_
        rintro e w3 ⟨rfl, hb3⟩
        have hL3 := hL2.go hb3
        go_wp2_with fail
        refine (hcn _ (hW.below (hL3.go (((Below.refl _ _).alloc (Nat.le_refl _) _).alloc (by simp) _)).below)).mono ?_
        rintro e w4 ⟨rfl, hb4⟩
        go_wp2
        go_ret
        exact ⟨by first | rfl | simp, ((hL3.go (((Below.refl _ _).alloc (Nat.le_refl _) _).alloc (by simp) _)).go hb4).below⟩
    · have hqi : (m0 : Int) % 3 = 2 := by omega
      cases neg
      ·
        have hv : parV id mode [78, 97, 82] = (0, 0, 5) := pw_no (kd := 4) v1 (wordB_narX b4) rfl
        go_enter Tryz.func6, Tryz.ntmps6
        go_wp2_with fail
        refine (hsh.out _ hW).mono ?_
        rintro e w1 ⟨rfl, hb⟩
        have hL1 := hL.go hb
        go_wp2_with fail
        refine (ptext_is id mode [78, 97, 82] _ 0 0 5 (by first | rfl | kernel_rfl) (by decide) hv (hW.below (hL1.go ((Below.refl _ _).alloc (Nat.le_refl _) _)).below)).mono ?_
        rintro e w2 ⟨rfl, hb2⟩
        have hL2 := (hL1.go ((Below.refl _ _).alloc (Nat.le_refl _) _)).go hb2
        go_wp2_with fail
        refine (hof.out _ (hW.below hL2.below)).mono ?_
        rintro e w3 ⟨rfl, hb3⟩
        have hL3 := hL2.go hb3
        go_wp2
        go_ret
        exact ⟨rfl, (hL3.go (((Below.refl _ _).alloc (Nat.le_refl _) _).alloc (by simp) _)).below⟩
      ·
        have hv : parV id mode [45, 78, 97, 82] = (0, 1, 5) := pw_no (kd := 4) v2 (wordB_narX b4) rfl
        go_enter Tryz.func6, Tryz.ntmps6
        go_wp2_with fail
        refine (hsh.out _ hW).mono ?_
        rintro e w1 ⟨rfl, hb⟩
        have hL1 := hL.go hb
        go_wp2_with fail
        refine (ptext_is id mode [45, 78, 97, 82] _ 0 1 5 (by first | rfl | kernel_rfl) (by decide) hv (hW.below (hL1.go ((Below.refl _ _).alloc (Nat.le_refl _) _)).below)).mono ?_
        rintro e w2 ⟨rfl, hb2⟩
        have hL2 := (hL1.go ((Below.refl _ _).alloc (Nat.le_refl _) _)).go hb2
        go_wp2_with fail
        refine (hof.out _ (hW.below hL2.below)).mono ?_
        rintro e w3 ⟨rfl, hb3⟩
        have hL3 := hL2.go hb3
        go_wp2
        go_ret
        exact ⟨rfl, (hL3.go (((Below.refl _ _).alloc (Nat.le_refl _) _).alloc (by simp) _)).below⟩
  · obtain rfl | rfl | rfl : q = 0 ∨ q = 1 ∨ q = 2 := by omega
    · have hqi : (m0 : Int) % 3 = 0 := by omega
      cases neg
      ·
        have hv : parV id mode [105, 110, 102] = (0, 0, 5) := pw_no (kd := 2) v1 (b1) rfl
        go_enter Tryz.func6, Tryz.ntmps6
        go_wp2_with fail
        refine (hsh.out _ hW).mono ?_
        rintro e w1 ⟨rfl, hb⟩
        have hL1 := hL.go hb
        go_wp2_with fail
        refine (ptext_is id mode [105, 110, 102] _ 0 0 5 (by first | rfl | kernel_rfl) (by decide) hv (hW.below (hL1.go ((Below.refl _ _).alloc (Nat.le_refl _) _)).below)).mono ?_
        rintro e w2 ⟨rfl, hb2⟩
        have hL2 := (hL1.go ((Below.refl _ _).alloc (Nat.le_refl _) _)).go hb2
        go_wp2_with fail
        refine (hof.out _ (hW.below hL2.below)).mono ?_
        rintro e w3 ⟨rfl, hb3⟩
        have hL3 := hL2.go hb3
        go_wp2
        go_ret
        exact ⟨rfl, (hL3.go (((Below.refl _ _).alloc (Nat.le_refl _) _).alloc (by simp) _)).below⟩
      ·
        have hv : parV id mode [45, 105, 110, 102] = (0, 1, 5) := pw_no (kd := 2) v2 (b1) rfl
        go_enter Tryz.func6, Tryz.ntmps6
        go_wp2_with fail
        refine (hsh.out _ hW).mono ?_
        rintro e w1 ⟨rfl, hb⟩
        have hL1 := hL.go hb
        go_wp2_with fail
        refine (ptext_is id mode [45, 105, 110, 102] _ 0 1 5 (by first | rfl | kernel_rfl) (by decide) hv (hW.below (hL1.go ((Below.refl _ _).alloc (Nat.le_refl _) _)).below)).mono ?_
        rintro e w2 ⟨rfl, hb2⟩
        have hL2 := (hL1.go ((Below.refl _ _).alloc (Nat.le_refl _) _)).go hb2
        go_wp2_with fail
        refine (hof.out _ (hW.below hL2.below)).mono ?_
        rintro e w3 ⟨rfl, hb3⟩
        have hL3 := hL2.go hb3
        go_wp2
        go_ret
        exact ⟨rfl, (hL3.go (((Below.refl _ _).alloc (Nat.le_refl _) _).alloc (by simp) _)).below⟩
    · have hqi : (m0 : Int) % 3 = 1 := by omega
      cases neg
      ·
        have hb : wordB id 3 false = true := wordB_nanX b2 b4
        have hv : parV id mode [110, 97, 110] = (fN id, 0, 0) := pw_yes (kd := 3) v1 hb rfl
        have hcn := word_is id (fN id) h1 h2 3 false (by decide) hb rfl
        clear hb
        go_enter Tryz.func6, Tryz.ntmps6
        go_wp2_with fail
        refine (hsh.out _ hW).mono ?_
        rintro e w1 ⟨rfl, hb⟩
        have hL1 := hL.go hb
        go_wp2_with fail
        refine (ptext_is id mode [110, 97, 110] _ (fN id) 0 0 (by first | rfl | kernel_rfl) (by decide) hv (hW.below (hL1.go ((Below.refl _ _).alloc (Nat.le_refl _) _)).below)).mono ?_
        rintro e w2 ⟨rfl, hb2⟩
        have hL2 := (hL1.go ((Below.refl _ _).alloc (Nat.le_refl _) _)).go hb2
        go_wp2_with fail
        refine (hof.out _ (hW.below hL2.below)).mono ?_
        rintro e w3 ⟨rfl, hb3⟩
        have hL3 := hL2.go hb3
        go_wp2_with fail
        refine (hcn _ (hW.below (hL3.go (((Below.refl _ _).alloc (Nat.le_refl _) _).alloc (by simp) _)).below)).mono ?_
        rintro e w4 ⟨rfl, hb4⟩
        go_wp2
        go_ret
        exact ⟨by first | rfl | simp, ((hL3.go (((Below.refl _ _).alloc (Nat.le_refl _) _).alloc (by simp) _)).go hb4).below⟩
      ·
        have hb : wordB id 3 true = true := wordB_nanX b2 b4
        have hv : parV id mode [45, 110, 97, 110] = (fN id, 0, 0) := pw_yes (kd := 3) v2 hb rfl
        have hcn := word_is id (fN id) h1 h2 3 true (by decide) hb rfl
        clear hb
        go_enter Tryz.func6, Tryz.ntmps6
        go_wp2_with fail
        refine (hsh.out _ hW).mono ?_
        rintro e w1 ⟨rfl, hb⟩
        have hL1 := hL.go hb
        go_wp2_with fail
        refine (ptext_is id mode [45, 110, 97, 110] _ (fN id) 0 0 (by first | rfl | kernel_rfl) (by decide) hv (hW.below (hL1.go ((Below.refl _ _).alloc (Nat.le_refl _) _)).below)).mono ?_
        rintro e w2 ⟨rfl, hb2⟩
        have hL2 := (hL1.go ((Below.refl _ _).alloc (Nat.le_refl _) _)).go hb2
        go_wp2_with fail
        refine (hof.out _ (hW.below hL2.below)).mono ?_
        rintro e w3 ⟨rfl, hb3⟩
        have hL3 := hL2.go hb3
        go_wp2_with fail
        refine (hcn _ (hW.below (hL3.go (((Below.refl _ _).alloc (Nat.le_refl _) _).alloc (by simp) _)).below)).mono ?_
        rintro e w4 ⟨rfl, hb4⟩
        go_wp2
        go_ret
        exact ⟨by first | rfl | simp, ((hL3.go (((Below.refl _ _).alloc (Nat.le_refl _) _).alloc (by simp) _)).go hb4).below⟩
    · have hqi : (m0 : Int) % 3 = 2 := by omega
      cases neg
      ·
        have hv : parV id mode [78, 97, 82] = (0, 0, 5) := pw_no (kd := 4) v1 (wordB_narX b4) rfl
        go_enter Tryz.func6, Tryz.ntmps6
        go_wp2_with fail
        refine (hsh.out _ hW).mono ?_
        rintro e w1 ⟨rfl, hb⟩
        have hL1 := hL.go hb
        go_wp2_with fail
        refine (ptext_is id mode [78, 97, 82] _ 0 0 5 (by first | rfl | kernel_rfl) (by decide) hv (hW.below (hL1.go ((Below.refl _ _).alloc (Nat.le_refl _) _)).below)).mono ?_
        rintro e w2 ⟨rfl, hb2⟩
        have hL2 := (hL1.go ((Below.refl _ _).alloc (Nat.le_refl _) _)).go hb2
        go_wp2_with fail
        refine (hof.out _ (hW.below hL2.below)).mono ?_
        rintro e w3 ⟨rfl, hb3⟩
        have hL3 := hL2.go hb3
        go_wp2
        go_ret
        exact ⟨rfl, (hL3.go (((Below.refl _ _).alloc (Nat.le_refl _) _).alloc (by simp) _)).below⟩
      ·
        have hv : parV id mode [45, 78, 97, 82] = (0, 1, 5) := pw_no (kd := 4) v2 (wordB_narX b4) rfl
        go_enter Tryz.func6, Tryz.ntmps6
        go_wp2_with fail
        refine (hsh.out _ hW).mono ?_
        rintro e w1 ⟨rfl, hb⟩
        have hL1 := hL.go hb
        go_wp2_with fail
        refine (ptext_is id mode [45, 78, 97, 82] _ 0 1 5 (by first | rfl | kernel_rfl) (by decide) hv (hW.below (hL1.go ((Below.refl _ _).alloc (Nat.le_refl _) _)).below)).mono ?_
        rintro e w2 ⟨rfl, hb2⟩
        have hL2 := (hL1.go ((Below.refl _ _).alloc (Nat.le_refl _) _)).go hb2
        go_wp2_with fail
        refine (hof.out _ (hW.below hL2.below)).mono ?_
        rintro e w3 ⟨rfl, hb3⟩
        have hL3 := hL2.go hb3
        go_wp2
        go_ret
        exact ⟨rfl, (hL3.go (((Below.refl _ _).alloc (Nat.le_refl _) _).alloc (by simp) _)).below⟩
  · obtain rfl | rfl | rfl : q = 0 ∨ q = 1 ∨ q = 2 := by omega
    · have hqi : (m0 : Int) % 3 = 0 := by omega
      cases neg
      ·
        have hv : parV id mode [105, 110, 102] = (0, 0, 5) := pw_no (kd := 2) v1 (b1) rfl
        go_enter Tryz.func6, Tryz.ntmps6
        go_wp2_with fail
        refine (hsh.out _ hW).mono ?_
        rintro e w1 ⟨rfl, hb⟩
        have hL1 := hL.go hb
        go_wp2_with fail
        refine (ptext_is id mode [105, 110, 102] _ 0 0 5 (by first | rfl | kernel_rfl) (by decide) hv (hW.below (hL1.go ((Below.refl _ _).alloc (Nat.le_refl _) _)).below)).mono ?_
        rintro e w2 ⟨rfl, hb2⟩
        have hL2 := (hL1.go ((Below.refl _ _).alloc (Nat.le_refl _) _)).go hb2
        go_wp2_with fail
        refine (hof.out _ (hW.below hL2.below)).mono ?_
        rintro e w3 ⟨rfl, hb3⟩
        have hL3 := hL2.go hb3
        go_wp2
        go_ret
        exact ⟨rfl, (hL3.go (((Below.refl _ _).alloc (Nat.le_refl _) _).alloc (by simp) _)).below⟩
      ·
        have hv : parV id mode [45, 105, 110, 102] = (0, 1, 5) := pw_no (kd := 2) v2 (b1) rfl
        go_enter Tryz.func6, Tryz.ntmps6
        go_wp2_with fail
        refine (hsh.out _ hW).mono ?_
        rintro e w1 ⟨rfl, hb⟩
        have hL1 := hL.go hb
        go_wp2_with fail
        refine (ptext_is id mode [45, 105, 110, 102] _ 0 1 5 (by first | rfl | kernel_rfl) (by decide) hv (hW.below (hL1.go ((Below.refl _ _).alloc (Nat.le_refl _) _)).below)).mono ?_
        rintro e w2 ⟨rfl, hb2⟩
        have hL2 := (hL1.go ((Below.refl _ _).alloc (Nat.le_refl _) _)).go hb2
        go_wp2_with fail
        refine (hof.out _ (hW.below hL2.below)).mono ?_
        rintro e w3 ⟨rfl, hb3⟩
        have hL3 := hL2.go hb3
        go_wp2
        go_ret
        exact ⟨rfl, (hL3.go (((Below.refl _ _).alloc (Nat.le_refl _) _).alloc (by simp) _)).below⟩
    · have hqi : (m0 : Int) % 3 = 1 := by omega
      cases neg
      ·
        have hv : parV id mode [110, 97, 110] = (0, 0, 5) := pw_no (kd := 3) v1 (wordB_nanX b2 b4) rfl
        go_enter Tryz.func6, Tryz.ntmps6
        go_wp2_with fail
        refine (hsh.out _ hW).mono ?_
        rintro e w1 ⟨rfl, hb⟩
        have hL1 := hL.go hb
        go_wp2_with fail
        refine (ptext_is id mode [110, 97, 110] _ 0 0 5 (by first | rfl | kernel_rfl) (by decide) hv (hW.below (hL1.go ((Below.refl _ _).alloc (Nat.le_refl _) _)).below)).mono ?_
        rintro e w2 ⟨rfl, hb2⟩
        have hL2 := (hL1.go ((Below.refl _ _).alloc (Nat.le_refl _) _)).go hb2
        go_wp2_with fail
        refine (hof.out _ (hW.below hL2.below)).mono ?_
        rintro e w3 ⟨rfl, hb3⟩
        have hL3 := hL2.go hb3
        go_wp2
        go_ret
        exact ⟨rfl, (hL3.go (((Below.refl _ _).alloc (Nat.le_refl _) _).alloc (by simp) _)).below⟩
      ·
        have hv : parV id mode [45, 110, 97, 110] = (0, 1, 5) := pw_no (kd := 3) v2 (wordB_nanX b2 b4) rfl
        go_enter Tryz.func6, Tryz.ntmps6
        go_wp2_with fail
        refine (hsh.out _ hW).mono ?_
        rintro e w1 ⟨rfl, hb⟩
        have hL1 := hL.go hb
        go_wp2_with fail
        refine (ptext_is id mode [45, 110, 97, 110] _ 0 1 5 (by first | rfl | kernel_rfl) (by decide) hv (hW.below (hL1.go ((Below.refl _ _).alloc (Nat.le_refl _) _)).below)).mono ?_
        rintro e w2 ⟨rfl, hb2⟩
        have hL2 := (hL1.go ((Below.refl _ _).alloc (Nat.le_refl _) _)).go hb2
        go_wp2_with fail
        refine (hof.out _ (hW.below hL2.below)).mono ?_
        rintro e w3 ⟨rfl, hb3⟩
        have hL3 := hL2.go hb3
        go_wp2
        go_ret
        exact ⟨rfl, (hL3.go (((Below.refl _ _).alloc (Nat.le_refl _) _).alloc (by simp) _)).below⟩
    · have hqi : (m0 : Int) % 3 = 2 := by omega
      cases neg
      ·
        have hv : parV id mode [78, 97, 82] = (0, 0, 5) := pw_no (kd := 4) v1 (wordB_narX b4) rfl
        go_enter Tryz.func6, Tryz.ntmps6
        go_wp2_with fail
        refine (hsh.out _ hW).mono ?_
        rintro e w1 ⟨rfl, hb⟩
        have hL1 := hL.go hb
        go_wp2_with fail
        refine (ptext_is id mode [78, 97, 82] _ 0 0 5 (by first | rfl | kernel_rfl) (by decide) hv (hW.below (hL1.go ((Below.refl _ _).alloc (Nat.le_refl _) _)).below)).mono ?_
        rintro e w2 ⟨rfl, hb2⟩
        have hL2 := (hL1.go ((Below.refl _ _).alloc (Nat.le_refl _) _)).go hb2
        go_wp2_with fail
        refine (hof.out _ (hW.below hL2.below)).mono ?_
        rintro e w3 ⟨rfl, hb3⟩
        have hL3 := hL2.go hb3
        go_wp2
        go_ret
        exact ⟨rfl, (hL3.go (((Below.refl _ _).alloc (Nat.le_refl _) _).alloc (by simp) _)).below⟩
      ·
        have hv : parV id mode [45, 78, 97, 82] = (0, 1, 5) := pw_no (kd := 4) v2 (wordB_narX b4) rfl
        go_enter Tryz.func6, Tryz.ntmps6
        go_wp2_with fail
        refine (hsh.out _ hW).mono ?_
        rintro e w1 ⟨rfl, hb⟩
        have hL1 := hL.go hb
        go_wp2_with fail
        refine (ptext_is id mode [45, 78, 97, 82] _ 0 1 5 (by first | rfl | kernel_rfl) (by decide) hv (hW.below (hL1.go ((Below.refl _ _).alloc (Nat.le_refl _) _)).below)).mono ?_
        rintro e w2 ⟨rfl, hb2⟩
        have hL2 := (hL1.go ((Below.refl _ _).alloc (Nat.le_refl _) _)).go hb2
        go_wp2_with fail
        refine (hof.out _ (hW.below hL2.below)).mono ?_
        rintro e w3 ⟨rfl, hb3⟩
        have hL3 := hL2.go hb3
        go_wp2
        go_ret
        exact ⟨rfl, (hL3.go (((Below.refl _ _).alloc (Nat.le_refl _) _).alloc (by simp) _)).below⟩
theorem parseWords_any (id mode wh : Int) (neg : Bool) (w : World) (hW : VaW w) : Calls Tryz.prog 6 #[.int .i64 id, .int .i64 mode, .int .i64 wh, .bool neg] w fun e w' => e = .returned (.bool true) ∧ Below w.heap.size w w' := by
  by_cases h : roundE id mode ≠ 0
  · exact words_bad id mode wh neg w hW h
  · have h0 : roundE id mode = 0 := Classical.byContradiction h
    have hid : 1 ≤ id ∧ id < 15 ∧ (mode = 1 ∨ mode = 2) := by
      unfold roundE at h0
      split at h0
      · omega
      · split at h0 <;> omega
    obtain ⟨h1, h2, hm⟩ := hid
    by_cases hm1 : mode = 1
    · exact words_goodA id mode wh neg w hW h1 h2 hm (by simp [hm1])
    · exact words_goodB id mode wh neg w hW h1 h2 hm (by simp [hm1]) (by rw [show mode = 2 by omega]; rfl)
end Go.Proofs.YtdlkfnkmdlcekaaGreatDoor
