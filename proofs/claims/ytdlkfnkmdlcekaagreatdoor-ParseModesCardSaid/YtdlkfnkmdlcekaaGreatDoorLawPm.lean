/- The law ParseModes, walked. Conditions: the variables that values read. -/
import Derived.Test.YtdlkfnkmdlcekaaGreatDoorLawPf
import Derived.Test.YtdlkfnkmdlcekaaGreatDoorParM
import Derived.Test.YtdlkfnkmdlcekaaGreatDoorValK
namespace Go.Proofs.YtdlkfnkmdlcekaaGreatDoor
open Go.RowKit Go.Cal
set_option maxRecDepth 100000 in
set_option maxHeartbeats 2000000 in
theorem parseModes_any (id : Int) (s : ByteArray) (w : World) (hW : VaW w) (hs : s.size ≤ maxLen) : Calls Tryz.prog 8 #[.int .i64 id, .string s] w fun e w' => e = .returned (.bool true) ∧ Below w.heap.size w w' := by
  obtain ⟨l, hl⟩ : ∃ l, s.data.toList = l := ⟨_, rfl⟩
  obtain rfl : s = strL l := by rw [← hl]; exact strL_back s
  clear hl
  obtain ⟨z, hz⟩ : ∃ z, l.length = z := ⟨_, rfl⟩
  have hsz : (strL l).size = z := by rw [strL_size, hz]
  rw [hsz] at hs
  obtain ⟨m, hm⟩ : ∃ m : Nat, min (z : Int) 300 = m := ⟨min z 300, by omega⟩
  have hsl := fun w => slice_toP l m (by omega) w
  obtain ⟨y, hy⟩ : ∃ y, (l.take m).length = y := ⟨_, rfl⟩
  have hyl : y ≤ 300 := by rw [← hy, List.length_take]; omega
  have hysz : (strL (l.take m)).size = y := by rw [strL_size, hy]
  have hp1 := Lib.hid fun w hW => ptext_any id 1 (l.take m) (by omega) w hW
  have hp2 := Lib.hid fun w hW => ptext_any id 2 (l.take m) (by omega) w hW
  have hfc1 := par_fits' id 1 (l.take m)
  have hfc2 := par_fits' id 2 (l.take m)
  have hmo := par_modes id (l.take m)
  generalize parV id 1 (l.take m) = p1 at hp1 hfc1 hmo
  generalize parV id 2 (l.take m) = p2 at hp2 hfc2 hmo
  obtain ⟨p, a, er⟩ := p1
  obtain ⟨q, b, fr⟩ := p2
  simp only at hp1 hp2 hfc1 hfc2 hmo
  obtain ⟨rfl, rfl, hmo⟩ := hmo
  replace hz := Lib.hid hz
  replace hy := Lib.hid hy
  have hsh := Lib.hid fun w hW => pshown_any w hW
  have hL := LiveP.start w
  by_cases h0 : er ≠ 0
  · have er' : (er != 0) = true := by simp [h0]
    clear hfc1 hfc2 hmo
    replace h0 := Lib.hid h0
    all_goals
        go_enter Tryz.func8, Tryz.ntmps8
        go_wp2_with fail
        refine (hsh.out _ hW).mono ?_
        rintro e w1 ⟨rfl, hb⟩
        have hL1 := hL.go hb
        clear hb
        go_wp2_with fail
        refine (hp1.out _ (hW.below hL1.below)).mono ?_
        rintro e w2 ⟨rfl, hb⟩
        have hL2 := hL1.go hb
        clear hb
        go_wp2_with fail
        refine (hp2.out _ (hW.below hL2.below)).mono ?_
        rintro e w3 ⟨rfl, hb⟩
        have hL3 := hL2.go hb
        clear hb
        go_wp2
        go_ret
        exact ⟨rfl, hL3.below⟩
  · have h0' : er = 0 := Classical.byContradiction h0
    subst h0'
    by_cases hpq : p = q
    · subst hpq
      clear hfc1 hfc2 hmo
      all_goals
        go_enter Tryz.func8, Tryz.ntmps8
        go_wp2_with fail
        refine (hsh.out _ hW).mono ?_
        rintro e w1 ⟨rfl, hb⟩
        have hL1 := hL.go hb
        clear hb
        go_wp2_with fail
        refine (hp1.out _ (hW.below hL1.below)).mono ?_
        rintro e w2 ⟨rfl, hb⟩
        have hL2 := hL1.go hb
        clear hb
        go_wp2_with fail
        refine (hp2.out _ (hW.below hL2.below)).mono ?_
        rintro e w3 ⟨rfl, hb⟩
        have hL3 := hL2.go hb
        clear hb
        go_wp2
        go_ret
        exact ⟨rfl, hL3.below⟩
    · obtain ⟨h1, h2, neg, he, hpv, hcl⟩ := (hmo.resolve_left (fun h => h rfl)).resolve_left hpq
      obtain ⟨-, -, hf2, -, hq0⟩ := hfc2.resolve_left (fun h => h.1 rfl)
      have hpq' : (p == q) = false := by simp [hpq]
      obtain ⟨-, -, hq1⟩ := fitsV_zero hf2
      obtain ⟨c1, c2, c3, c4, c5⟩ := most_pat he
      rw [← hpv] at c1 c2 c3 c4 c5
      have hdp := fun w hW => vdec_yes id p h1 h2 c4 c5 w hW
      have hdq := fun w hW => vdec_yes id q h1 h2 hq0 hq1 w hW
      have hky := fun w hW => vkey_yes id p h1 h2 c4 c5 (by rw [c1]; decide) w hW
      rw [c2, c3] at hky
      replace hky := Lib.hid hky
      have hmr : mostR id neg = mostV id neg := by unfold mostR; rw [if_pos he]
      have hms := fun w hW => vmost_any id neg w hW
      rw [hmr, he] at hms
      replace hms := Lib.hid hms
      have hnp : decN id p = neg := by unfold decN; rw [c1, if_neg (by decide), c2]
      have hnq : (classV id q = 3 ∧ decN id q = neg) ∨ classV id q = 4 := by
        rcases hcl with ⟨a1, a2⟩ | a1
        · left; exact ⟨a1, by unfold decN; rw [a1, if_neg (by decide), a2]⟩
        · exact .inr a1
      rw [hnp, c1] at hdp
      replace hdp := Lib.hid hdp
      generalize mostV id neg = mv at hms hky
      clear hfc1 hfc2 hmo hcl hnp hmr c1 c2 c3 c4 c5 hpv he hq0 hq1 hf2
      replace hpq := Lib.hid hpq
      rcases hnq with ⟨d1, d2⟩ | d1
      · rw [d1, d2] at hdq
        replace hdq := Lib.hid hdq
        all_goals
        go_enter Tryz.func8, Tryz.ntmps8
        go_wp2_with fail
        refine (hsh.out _ hW).mono ?_
        rintro e w1 ⟨rfl, hb⟩
        have hL1 := hL.go hb
        clear hb
        go_wp2_with fail
        refine (hp1.out _ (hW.below hL1.below)).mono ?_
        rintro e w2 ⟨rfl, hb⟩
        have hL2 := hL1.go hb
        clear hb
        go_wp2_with fail
        refine (hp2.out _ (hW.below hL2.below)).mono ?_
        rintro e w3 ⟨rfl, hb⟩
        have hL3 := hL2.go hb
        clear hb
        go_wp2_with fail
        refine (hdp.out _ (hW.below hL3.below)).mono ?_
        rintro e w4 ⟨rfl, hb⟩
        have hL4 := hL3.go hb
        clear hb
        go_wp2_with fail
        have hL5 := (hL4.go ((Below.refl _ _).alloc (Nat.le_refl _) (.cells #[.int .i64 2, .bool neg, .int .u64 (decM id p : Nat), .int .i64 (decE id p)] 25))).put (pBlk_st _ _ _) (pBlk_made w4 #[.int .i64 2, .bool neg, .int .u64 (decM id p : Nat), .int .i64 (decE id p)] 25)
        refine (hdq.out _ (hW.below hL5.below)).mono ?_
        rintro e w5 ⟨rfl, hb⟩
        have hL6 := hL5.go hb
        clear hb
        obtain ⟨p0, p1, p2, p3⟩ := cells4 (hL6.get (P := pBlk w4.heap.size #[.int .i64 2, .bool neg, .int .u64 (decM id p : Nat), .int .i64 (decE id p)] 25) (by repeat (first | exact List.mem_cons_self | apply List.mem_cons_of_mem)))
        have hlt := (hL6.get (P := pBlk w4.heap.size #[.int .i64 2, .bool neg, .int .u64 (decM id p : Nat), .int .i64 (decE id p)] 25) (by repeat (first | exact List.mem_cons_self | apply List.mem_cons_of_mem))).lt
        go_wp2_with fail
        have hL7 := (hL6.go ((Below.refl _ _).alloc (Nat.le_refl _) (.cells #[.int .i64 (3), .bool (neg), .int .u64 (decM id q : Nat), .int .i64 (decE id q)] 25))).put (pBlk_st _ _ _) (pBlk_made w5 #[.int .i64 (3), .bool (neg), .int .u64 (decM id q : Nat), .int .i64 (decE id q)] 25)
        clear p0 p1 p2 p3
        refine (hms.out _ (hW.below hL7.below)).mono ?_
        rintro e w6 ⟨rfl, hb⟩
        have hL8 := hL7.go hb
        clear hb
        go_wp2_with fail
        refine (hky.out _ (hW.below hL8.below)).mono ?_
        rintro e w7 ⟨rfl, hb⟩
        have hL9 := hL8.go hb
        clear hb
        obtain ⟨p0, p1, p2, p3⟩ := cells4 (hL9.get (P := pBlk w4.heap.size #[.int .i64 2, .bool neg, .int .u64 (decM id p : Nat), .int .i64 (decE id p)] 25) (by repeat (first | exact List.mem_cons_self | apply List.mem_cons_of_mem)))
        obtain ⟨q0, q1, q2, q3⟩ := cells4 (hL9.get (P := pBlk w5.heap.size #[.int .i64 (3), .bool (neg), .int .u64 (decM id q : Nat), .int .i64 (decE id q)] 25) (by repeat (first | exact List.mem_cons_self | apply List.mem_cons_of_mem)))
        go_wp2
        go_ret
        exact ⟨by first | rfl | simp, hL9.below⟩
      · rw [d1] at hdq
        replace hdq := Lib.hid hdq
        all_goals
        go_enter Tryz.func8, Tryz.ntmps8
        go_wp2_with fail
        refine (hsh.out _ hW).mono ?_
        rintro e w1 ⟨rfl, hb⟩
        have hL1 := hL.go hb
        clear hb
        go_wp2_with fail
        refine (hp1.out _ (hW.below hL1.below)).mono ?_
        rintro e w2 ⟨rfl, hb⟩
        have hL2 := hL1.go hb
        clear hb
        go_wp2_with fail
        refine (hp2.out _ (hW.below hL2.below)).mono ?_
        rintro e w3 ⟨rfl, hb⟩
        have hL3 := hL2.go hb
        clear hb
        go_wp2_with fail
        refine (hdp.out _ (hW.below hL3.below)).mono ?_
        rintro e w4 ⟨rfl, hb⟩
        have hL4 := hL3.go hb
        clear hb
        go_wp2_with fail
        have hL5 := (hL4.go ((Below.refl _ _).alloc (Nat.le_refl _) (.cells #[.int .i64 2, .bool neg, .int .u64 (decM id p : Nat), .int .i64 (decE id p)] 25))).put (pBlk_st _ _ _) (pBlk_made w4 #[.int .i64 2, .bool neg, .int .u64 (decM id p : Nat), .int .i64 (decE id p)] 25)
        refine (hdq.out _ (hW.below hL5.below)).mono ?_
        rintro e w5 ⟨rfl, hb⟩
        have hL6 := hL5.go hb
        clear hb
        obtain ⟨p0, p1, p2, p3⟩ := cells4 (hL6.get (P := pBlk w4.heap.size #[.int .i64 2, .bool neg, .int .u64 (decM id p : Nat), .int .i64 (decE id p)] 25) (by repeat (first | exact List.mem_cons_self | apply List.mem_cons_of_mem)))
        have hlt := (hL6.get (P := pBlk w4.heap.size #[.int .i64 2, .bool neg, .int .u64 (decM id p : Nat), .int .i64 (decE id p)] 25) (by repeat (first | exact List.mem_cons_self | apply List.mem_cons_of_mem))).lt
        go_wp2_with fail
        have hL7 := (hL6.go ((Below.refl _ _).alloc (Nat.le_refl _) (.cells #[.int .i64 (4), .bool (decN id q), .int .u64 (decM id q : Nat), .int .i64 (decE id q)] 25))).put (pBlk_st _ _ _) (pBlk_made w5 #[.int .i64 (4), .bool (decN id q), .int .u64 (decM id q : Nat), .int .i64 (decE id q)] 25)
        clear p0 p1 p2 p3
        refine (hms.out _ (hW.below hL7.below)).mono ?_
        rintro e w6 ⟨rfl, hb⟩
        have hL8 := hL7.go hb
        clear hb
        go_wp2_with fail
        refine (hky.out _ (hW.below hL8.below)).mono ?_
        rintro e w7 ⟨rfl, hb⟩
        have hL9 := hL8.go hb
        clear hb
        obtain ⟨p0, p1, p2, p3⟩ := cells4 (hL9.get (P := pBlk w4.heap.size #[.int .i64 2, .bool neg, .int .u64 (decM id p : Nat), .int .i64 (decE id p)] 25) (by repeat (first | exact List.mem_cons_self | apply List.mem_cons_of_mem)))
        obtain ⟨q0, q1, q2, q3⟩ := cells4 (hL9.get (P := pBlk w5.heap.size #[.int .i64 (4), .bool (decN id q), .int .u64 (decM id q : Nat), .int .i64 (decE id q)] 25) (by repeat (first | exact List.mem_cons_self | apply List.mem_cons_of_mem)))
        go_wp2
        go_ret
        exact ⟨by first | rfl | simp, hL9.below⟩
end Go.Proofs.YtdlkfnkmdlcekaaGreatDoor
