/- The law ParseSigns, walked. Conditions: the variables that values read. -/
import Derived.Test.YtdlkfnkmdlcekaaGreatDoorLawPf
import Derived.Test.YtdlkfnkmdlcekaaGreatDoorParG
namespace Go.Proofs.YtdlkfnkmdlcekaaGreatDoor
open Go.RowKit Go.Cal
theorem strL_appP (a b : List UInt8) : strL a ++ strL b = strL (a ++ b) := by
  unfold strL
  refine ByteArray.ext ?_
  simp
theorem cells7 {w : World} {g : Nat} {a b c d e f h : Value} {t : TypeId} (hp : pBlk g #[a, b, c, d, e, f, h] t w) :
    w.cell? ⟨g, 0, none⟩ = some a ∧ w.cell? ⟨g, 1, none⟩ = some b ∧ w.cell? ⟨g, 2, none⟩ = some c ∧ w.cell? ⟨g, 3, none⟩ = some d ∧ w.cell? ⟨g, 4, none⟩ = some e ∧ w.cell? ⟨g, 5, none⟩ = some f ∧ w.cell? ⟨g, 6, none⟩ = some h :=
  ⟨hp.cell 0 _ rfl, hp.cell 1 _ rfl, hp.cell 2 _ rfl, hp.cell 3 _ rfl, hp.cell 4 _ rfl, hp.cell 5 _ rfl, hp.cell 6 _ rfl⟩
set_option maxRecDepth 100000 in
set_option maxHeartbeats 2000000 in
theorem parseSigns_any (id mode : Int) (s : ByteArray) (w : World) (hW : VaW w) (hs : s.size ≤ maxLen) : Calls Tryz.prog 5 #[.int .i64 id, .int .i64 mode, .string s] w fun e w' => e = .returned (.bool true) ∧ Below w.heap.size w w' := by
  obtain ⟨l, hl⟩ : ∃ l, s.data.toList = l := ⟨_, rfl⟩
  obtain rfl : s = strL l := by rw [← hl]; exact strL_back s
  clear hl
  obtain ⟨z, hz⟩ : ∃ z, l.length = z := ⟨_, rfl⟩
  have hsz : (strL l).size = z := by rw [strL_size, hz]
  rw [hsz] at hs
  obtain ⟨m, hm⟩ : ∃ m : Nat, min (z : Int) 300 = m := ⟨min z 300, by omega⟩
  have hsl := fun w => slice_toP l m (by omega) w
  obtain ⟨y, hy⟩ : ∃ y, (l.take m).length = y := ⟨_, rfl⟩
  have hyl : y ≤ 300 := by rw [← hy, List.length_take]; omega
  have hysz : (strL (l.take m)).size = y := by rw [strL_size, hy]
  obtain ⟨L, hLe⟩ : ∃ L, l.take m = L := ⟨_, rfl⟩
  rw [hLe] at hsl hy hysz
  replace hLe := Lib.hid hLe
  replace hz := Lib.hid hz
  have hsh := Lib.hid fun w hW => pshown_any w hW
  have hL0 := LiveP.start w
  by_cases hid : id < 1 ∨ 15 ≤ id
  · have hof := Lib.hid fun w => fo_none id w hid
    replace hy := Lib.hid hy
    all_goals
                go_enter Tryz.func5, Tryz.ntmps5
                go_wp2_with fail
                refine (hsh.out _ hW).mono ?_
                rintro e w1 ⟨rfl, hb⟩
                have hL1 := hL0.go hb
                clear hb
                go_wp2_with fail
                refine (hof.out _).mono ?_
                rintro e w2 ⟨rfl, hb⟩
                have hL2 := (hL1.go hb).go ((Below.refl _ _).alloc (Nat.le_refl _) (.cells #[.int .i64 0, .int .i64 0, .int .i64 0, .int .i64 0, .int .u64 0, .int .u64 0, .int .u64 0] 39))
                clear hb
                go_wp2
                go_ret
                exact ⟨rfl, hL2.below⟩
  · have h1 : 1 ≤ id := by omega
    have h2 : id < 15 := by omega
    have hof := Lib.hid fun w (hW : VaW w) => fo_of id w hW.frm h1 h2
    by_cases hk : fK id = 1 ∨ fK id = 2
    · cases L with
      | nil =>
        have hne0 : (strL []).toList.isEmpty = true := by unfold strL; rw [ByteArray.toList_mk]; rfl
        have hkk : ((fK id != 2) = true ∧ (fK id != 1) = false) ∨ (fK id != 2) = false := by rcases hk with h | h <;> simp [h]
        replace hy := Lib.hid hy
        obtain rfl : y = 0 := by rw [← hy.out]; rfl
        rcases hkk with ⟨k1, k2⟩ | k1
        all_goals
                go_enter Tryz.func5, Tryz.ntmps5
                go_wp2_with fail
                refine (hsh.out _ hW).mono ?_
                rintro e w1 ⟨rfl, hb⟩
                have hL1 := hL0.go hb
                clear hb
                go_wp2_with fail
                refine (hof.out _ (hW.below hL1.below)).mono ?_
                rintro e w2 ⟨rfl, hb⟩
                have hL2 := ((hL1.go hb).go ((Below.refl _ _).alloc (Nat.le_refl _) (.cells #[.int .i64 (fK id), .int .i64 (fW id), .int .i64 (fM id), .int .i64 (fB id), .int .u64 (fT id), .int .u64 (fI id), .int .u64 (fN id)] 39))).put (pBlk_st _ _ _) (pBlk_made w2 #[.int .i64 (fK id), .int .i64 (fW id), .int .i64 (fM id), .int .i64 (fB id), .int .u64 (fT id), .int .u64 (fI id), .int .u64 (fN id)] 39)
                clear hb
                go_wp2
                go_ret
                exact ⟨by first | rfl | simp, hL2.below⟩
      | cons x t =>
        have hy0 : 0 < y := by rw [← hy, List.length_cons]; omega
        have hget : ∀ h : 0 < (strL (x :: t)).size, (strL (x :: t))[0] = x := fun h => rfl
        have hcat : (⟨#[45]⟩ : ByteArray) ++ strL (x :: t) = strL (45 :: x :: t) := strL_appP [45] (x :: t)
        have hne : (strL (x :: t)).toList.isEmpty = false := by unfold strL; rw [ByteArray.toList_mk]; rfl
        by_cases hx : x = 46 ∨ (48 ≤ x.toNat ∧ x.toNat ≤ 57)
        · have hps := par_signs (mode := mode) (t := t) h1 h2 hk hx
          have hp1 := Lib.hid fun w hW => ptext_any id mode (x :: t) (by rw [hy]; omega) w hW
          have hp2 := Lib.hid fun w hW => ptext_any id mode (45 :: x :: t) (by rw [List.length_cons, hy]; omega) w hW
          have hxc : ((x.toNat : Int) != 46) = false ∨ ((x.toNat : Int) != 46) = true ∧ ¬ (x.toNat : Int) < 48 ∧ ¬ 57 < (x.toNat : Int) := by
            rcases hx with rfl | hx
            · exact .inl rfl
            · by_cases h : (x.toNat : Int) != 46
              · right; exact ⟨h, by omega, by omega⟩
              · left; simpa using h
          replace hy := Lib.hid hy
          clear hx
          rcases hps with ⟨n, m1, E, hE, e1, e2, hn0, hn1, hm1⟩ | ⟨p, q, e1, e2, hp0, hp64, hpq⟩
          · rw [e1] at hp1
            rw [e2] at hp2
            have hE' : (E != 0) = true := by simp [hE]
            have hkk : ((fK id != 2) = true ∧ (fK id != 1) = false) ∨ (fK id != 2) = false := by rcases hk with h | h <;> simp [h]
            have hyy := hy.out
            rw [List.length_cons] at hyy
            have hn2 : n ≤ 301 := by omega
            clear hyy hk e1 e2 hn1
            rcases hm1 with rfl | ⟨rfl, rfl⟩
            · rcases hkk with ⟨k1, k2⟩ | k1 <;> rcases hxc with x1 | ⟨x1, x2, x3⟩
              all_goals
                go_enter Tryz.func5, Tryz.ntmps5
                go_wp2_with fail
                refine (hsh.out _ hW).mono ?_
                rintro e w1 ⟨rfl, hb⟩
                have hL1 := hL0.go hb
                clear hb
                go_wp2_with fail
                refine (hof.out _ (hW.below hL1.below)).mono ?_
                rintro e w2 ⟨rfl, hb⟩
                have hL2 := ((hL1.go hb).go ((Below.refl _ _).alloc (Nat.le_refl _) (.cells #[.int .i64 (fK id), .int .i64 (fW id), .int .i64 (fM id), .int .i64 (fB id), .int .u64 (fT id), .int .u64 (fI id), .int .u64 (fN id)] 39))).put (pBlk_st _ _ _) (pBlk_made w2 #[.int .i64 (fK id), .int .i64 (fW id), .int .i64 (fM id), .int .i64 (fB id), .int .u64 (fT id), .int .u64 (fI id), .int .u64 (fN id)] 39)
                clear hb
                go_wp2_with fail
                refine (hp1.out _ (hW.below hL2.below)).mono ?_
                rintro e w3 ⟨rfl, hb⟩
                have hL3 := hL2.go hb
                clear hb
                go_wp2_with fail
                refine (hp2.out _ (hW.below hL3.below)).mono ?_
                rintro e w4 ⟨rfl, hb⟩
                have hL4 := hL3.go hb
                clear hb
                obtain ⟨c0, c1, c2, c3, c4, c5, c6⟩ := cells7 (hL4.get (P := pBlk w2.heap.size #[.int .i64 (fK id), .int .i64 (fW id), .int .i64 (fM id), .int .i64 (fB id), .int .u64 (fT id), .int .u64 (fI id), .int .u64 (fN id)] 39) (by repeat (first | exact List.mem_cons_self | apply List.mem_cons_of_mem)))
                go_wp2
                go_ret
                exact ⟨by first | rfl | simp, hL4.below⟩
            · have hn3 : ((0 : Int) == n + 1) = false := by simp; omega
              rcases hkk with ⟨k1, k2⟩ | k1 <;> rcases hxc with x1 | ⟨x1, x2, x3⟩
              all_goals
                go_enter Tryz.func5, Tryz.ntmps5
                go_wp2_with fail
                refine (hsh.out _ hW).mono ?_
                rintro e w1 ⟨rfl, hb⟩
                have hL1 := hL0.go hb
                clear hb
                go_wp2_with fail
                refine (hof.out _ (hW.below hL1.below)).mono ?_
                rintro e w2 ⟨rfl, hb⟩
                have hL2 := ((hL1.go hb).go ((Below.refl _ _).alloc (Nat.le_refl _) (.cells #[.int .i64 (fK id), .int .i64 (fW id), .int .i64 (fM id), .int .i64 (fB id), .int .u64 (fT id), .int .u64 (fI id), .int .u64 (fN id)] 39))).put (pBlk_st _ _ _) (pBlk_made w2 #[.int .i64 (fK id), .int .i64 (fW id), .int .i64 (fM id), .int .i64 (fB id), .int .u64 (fT id), .int .u64 (fI id), .int .u64 (fN id)] 39)
                clear hb
                go_wp2_with fail
                refine (hp1.out _ (hW.below hL2.below)).mono ?_
                rintro e w3 ⟨rfl, hb⟩
                have hL3 := hL2.go hb
                clear hb
                go_wp2_with fail
                refine (hp2.out _ (hW.below hL3.below)).mono ?_
                rintro e w4 ⟨rfl, hb⟩
                have hL4 := hL3.go hb
                clear hb
                obtain ⟨c0, c1, c2, c3, c4, c5, c6⟩ := cells7 (hL4.get (P := pBlk w2.heap.size #[.int .i64 (fK id), .int .i64 (fW id), .int .i64 (fM id), .int .i64 (fB id), .int .u64 (fT id), .int .u64 (fI id), .int .u64 (fN id)] 39) (by repeat (first | exact List.mem_cons_self | apply List.mem_cons_of_mem)))
                go_wp2
                go_ret
                exact ⟨by first | rfl | simp, hL4.below⟩
          · rw [e1] at hp1
            rw [e2] at hp2
            clear e1 e2
            rcases hpq with ⟨hf, rfl, rfl⟩ | ⟨hf, k2, hlt, rfl⟩ | ⟨hf, k1, rfl⟩
            · have hf' : (fN id != 0) = true := by simp [hf]
              have hkk : ((fK id != 2) = true ∧ (fK id != 1) = false) ∨ (fK id != 2) = false := by rcases hk with h | h <;> simp [h]
              clear hf hk
              rcases hkk with ⟨k1, k2⟩ | k1 <;> rcases hxc with x1 | ⟨x1, x2, x3⟩
              all_goals
                go_enter Tryz.func5, Tryz.ntmps5
                go_wp2_with fail
                refine (hsh.out _ hW).mono ?_
                rintro e w1 ⟨rfl, hb⟩
                have hL1 := hL0.go hb
                clear hb
                go_wp2_with fail
                refine (hof.out _ (hW.below hL1.below)).mono ?_
                rintro e w2 ⟨rfl, hb⟩
                have hL2 := ((hL1.go hb).go ((Below.refl _ _).alloc (Nat.le_refl _) (.cells #[.int .i64 (fK id), .int .i64 (fW id), .int .i64 (fM id), .int .i64 (fB id), .int .u64 (fT id), .int .u64 (fI id), .int .u64 (fN id)] 39))).put (pBlk_st _ _ _) (pBlk_made w2 #[.int .i64 (fK id), .int .i64 (fW id), .int .i64 (fM id), .int .i64 (fB id), .int .u64 (fT id), .int .u64 (fI id), .int .u64 (fN id)] 39)
                clear hb
                go_wp2_with fail
                refine (hp1.out _ (hW.below hL2.below)).mono ?_
                rintro e w3 ⟨rfl, hb⟩
                have hL3 := hL2.go hb
                clear hb
                go_wp2_with fail
                refine (hp2.out _ (hW.below hL3.below)).mono ?_
                rintro e w4 ⟨rfl, hb⟩
                have hL4 := hL3.go hb
                clear hb
                obtain ⟨c0, c1, c2, c3, c4, c5, c6⟩ := cells7 (hL4.get (P := pBlk w2.heap.size #[.int .i64 (fK id), .int .i64 (fW id), .int .i64 (fM id), .int .i64 (fB id), .int .u64 (fT id), .int .u64 (fI id), .int .u64 (fN id)] 39) (by repeat (first | exact List.mem_cons_self | apply List.mem_cons_of_mem)))
                go_wp2
                go_ret
                exact ⟨by first | rfl | simp, hL4.below⟩
            · have k1 : (fK id != 2) = false := by simp [k2]
              have k3 : (fK id == 1) = false := by simp [k2]
              have hsg := fun w => fo_sgn id h1 h2 w
              have hS : sgV id = 2 ^ ((fW id).toNat - 1) := by unfold sgV; rw [if_neg (by omega)]
              obtain ⟨w1', w2', -⟩ := fo_wide h1 h2
              have hxo := pat_xor p ((fW id).toNat - 1) (by omega) hp0 hlt
              rw [hS] at hsg
              replace hsg := Lib.hid hsg
              replace hxo := Lib.hid hxo
              have hff : ((fN id != 0) = false) ∨ ((fN id != 0) = true ∧ (p == fN id) = false) := by
                by_cases h : fN id = 0
                · left; simp [h]
                · right; rcases hf with hf | hf
                  · exact absurd hf h
                  · exact ⟨by simp [h], by simp [hf]⟩
              clear hf hk hS hlt
              replace k2 := Lib.hid k2
              rcases hff with hff | ⟨hff, hfp⟩ <;> rcases hxc with x1 | ⟨x1, x2, x3⟩
              all_goals
                go_enter Tryz.func5, Tryz.ntmps5
                go_wp2_with fail
                refine (hsh.out _ hW).mono ?_
                rintro e w1 ⟨rfl, hb⟩
                have hL1 := hL0.go hb
                clear hb
                go_wp2_with fail
                refine (hof.out _ (hW.below hL1.below)).mono ?_
                rintro e w2 ⟨rfl, hb⟩
                have hL2 := ((hL1.go hb).go ((Below.refl _ _).alloc (Nat.le_refl _) (.cells #[.int .i64 (fK id), .int .i64 (fW id), .int .i64 (fM id), .int .i64 (fB id), .int .u64 (fT id), .int .u64 (fI id), .int .u64 (fN id)] 39))).put (pBlk_st _ _ _) (pBlk_made w2 #[.int .i64 (fK id), .int .i64 (fW id), .int .i64 (fM id), .int .i64 (fB id), .int .u64 (fT id), .int .u64 (fI id), .int .u64 (fN id)] 39)
                clear hb
                go_wp2_with fail
                refine (hp1.out _ (hW.below hL2.below)).mono ?_
                rintro e w3 ⟨rfl, hb⟩
                have hL3 := hL2.go hb
                clear hb
                go_wp2_with fail
                refine (hp2.out _ (hW.below hL3.below)).mono ?_
                rintro e w4 ⟨rfl, hb⟩
                have hL4 := hL3.go hb
                clear hb
                obtain ⟨c0, c1, c2, c3, c4, c5, c6⟩ := cells7 (hL4.get (P := pBlk w2.heap.size #[.int .i64 (fK id), .int .i64 (fW id), .int .i64 (fM id), .int .i64 (fB id), .int .u64 (fT id), .int .u64 (fI id), .int .u64 (fN id)] 39) (by repeat (first | exact List.mem_cons_self | apply List.mem_cons_of_mem)))
                go_wp2_with fail
                refine (hsg.out _).mono ?_
                rintro e w5 ⟨rfl, hb⟩
                have hL5 := hL4.go hb
                clear hb c0 c1 c2 c3 c4 c5 c6
                obtain ⟨c0, c1, c2, c3, c4, c5, c6⟩ := cells7 (hL5.get (P := pBlk w2.heap.size #[.int .i64 (fK id), .int .i64 (fW id), .int .i64 (fM id), .int .i64 (fB id), .int .u64 (fT id), .int .u64 (fI id), .int .u64 (fN id)] 39) (by repeat (first | exact List.mem_cons_self | apply List.mem_cons_of_mem)))
                go_wp2
                rw [hxo.out]
                go_ret
                exact ⟨by first | rfl | simp, hL5.below⟩
            · have k2 : (fK id != 2) = true := by simp [k1]
              have k3 : (fK id != 1) = false := by simp [k1]
              have k4 : (fK id == 1) = true := by simp [k1]
              have hsg := Lib.hid fun w => fo_sgn id h1 h2 w
              have hmk := Lib.hid (fun w => fo_mask (fK id) (fW id) (fM id) (fB id) (fT id) (fI id) (fN id) w (by have := fo_wide h1 h2; omega) (by have := fo_wide h1 h2; omega))
              have han := Lib.hid (pat_and p (fW id).toNat (fo_wide h1 h2).1)
              have hfp : (p == fN id) = false := by simp [hf]
              have hff : (fN id != 0) = false ∨ (fN id != 0) = true := by cases (fN id != 0) <;> simp
              clear hf hk
              replace k1 := Lib.hid k1
              rcases hff with hff | hff <;> rcases hxc with x1 | ⟨x1, x2, x3⟩
              all_goals
                go_enter Tryz.func5, Tryz.ntmps5
                go_wp2_with fail
                refine (hsh.out _ hW).mono ?_
                rintro e w1 ⟨rfl, hb⟩
                have hL1 := hL0.go hb
                clear hb
                go_wp2_with fail
                refine (hof.out _ (hW.below hL1.below)).mono ?_
                rintro e w2 ⟨rfl, hb⟩
                have hL2 := ((hL1.go hb).go ((Below.refl _ _).alloc (Nat.le_refl _) (.cells #[.int .i64 (fK id), .int .i64 (fW id), .int .i64 (fM id), .int .i64 (fB id), .int .u64 (fT id), .int .u64 (fI id), .int .u64 (fN id)] 39))).put (pBlk_st _ _ _) (pBlk_made w2 #[.int .i64 (fK id), .int .i64 (fW id), .int .i64 (fM id), .int .i64 (fB id), .int .u64 (fT id), .int .u64 (fI id), .int .u64 (fN id)] 39)
                clear hb
                go_wp2_with fail
                refine (hp1.out _ (hW.below hL2.below)).mono ?_
                rintro e w3 ⟨rfl, hb⟩
                have hL3 := hL2.go hb
                clear hb
                go_wp2_with fail
                refine (hp2.out _ (hW.below hL3.below)).mono ?_
                rintro e w4 ⟨rfl, hb⟩
                have hL4 := hL3.go hb
                clear hb
                obtain ⟨c0, c1, c2, c3, c4, c5, c6⟩ := cells7 (hL4.get (P := pBlk w2.heap.size #[.int .i64 (fK id), .int .i64 (fW id), .int .i64 (fM id), .int .i64 (fB id), .int .u64 (fT id), .int .u64 (fI id), .int .u64 (fN id)] 39) (by repeat (first | exact List.mem_cons_self | apply List.mem_cons_of_mem)))
                go_wp2_with fail
                refine (hsg.out _).mono ?_
                rintro e w5 ⟨rfl, hb⟩
                have hL5 := hL4.go hb
                clear hb c0 c1 c2 c3 c4 c5 c6
                obtain ⟨c0, c1, c2, c3, c4, c5, c6⟩ := cells7 (hL5.get (P := pBlk w2.heap.size #[.int .i64 (fK id), .int .i64 (fW id), .int .i64 (fM id), .int .i64 (fB id), .int .u64 (fT id), .int .u64 (fI id), .int .u64 (fN id)] 39) (by repeat (first | exact List.mem_cons_self | apply List.mem_cons_of_mem)))
                go_wp2_with fail
                refine (hmk.out _).mono ?_
                rintro e w6 ⟨rfl, hb⟩
                have hL6 := hL5.go hb
                clear hb
                go_wp2
                rw [han.out]
                go_ret
                exact ⟨by first | rfl | simp, hL6.below⟩
        · have hxc : ((x.toNat : Int) != 46) = true ∧ ((x.toNat : Int) < 48 ∨ ¬ (x.toNat : Int) < 48 ∧ 57 < (x.toNat : Int)) := by
            refine ⟨?_, by omega⟩
            simp only [bne_iff_ne, ne_eq]
            intro e
            exact hx (.inl (UInt8.toNat_inj.1 (by show x.toNat = 46; omega)))
          have hkk : ((fK id != 2) = true ∧ (fK id != 1) = false) ∨ (fK id != 2) = false := by rcases hk with h | h <;> simp [h]
          clear hk hx
          replace hy := Lib.hid hy
          obtain ⟨x1, hxc⟩ := hxc
          rcases hkk with ⟨k1, k2⟩ | k1 <;> rcases hxc with x2 | ⟨x2, x3⟩
          all_goals
                go_enter Tryz.func5, Tryz.ntmps5
                go_wp2_with fail
                refine (hsh.out _ hW).mono ?_
                rintro e w1 ⟨rfl, hb⟩
                have hL1 := hL0.go hb
                clear hb
                go_wp2_with fail
                refine (hof.out _ (hW.below hL1.below)).mono ?_
                rintro e w2 ⟨rfl, hb⟩
                have hL2 := ((hL1.go hb).go ((Below.refl _ _).alloc (Nat.le_refl _) (.cells #[.int .i64 (fK id), .int .i64 (fW id), .int .i64 (fM id), .int .i64 (fB id), .int .u64 (fT id), .int .u64 (fI id), .int .u64 (fN id)] 39))).put (pBlk_st _ _ _) (pBlk_made w2 #[.int .i64 (fK id), .int .i64 (fW id), .int .i64 (fM id), .int .i64 (fB id), .int .u64 (fT id), .int .u64 (fI id), .int .u64 (fN id)] 39)
                clear hb
                go_wp2
                go_ret
                exact ⟨by first | rfl | simp, hL2.below⟩
    · have k1 : (fK id != 2) = true := by simp; omega
      have k2 : (fK id != 1) = true := by simp; omega
      replace hy := Lib.hid hy
      all_goals
                go_enter Tryz.func5, Tryz.ntmps5
                go_wp2_with fail
                refine (hsh.out _ hW).mono ?_
                rintro e w1 ⟨rfl, hb⟩
                have hL1 := hL0.go hb
                clear hb
                go_wp2_with fail
                refine (hof.out _ (hW.below hL1.below)).mono ?_
                rintro e w2 ⟨rfl, hb⟩
                have hL2 := ((hL1.go hb).go ((Below.refl _ _).alloc (Nat.le_refl _) (.cells #[.int .i64 (fK id), .int .i64 (fW id), .int .i64 (fM id), .int .i64 (fB id), .int .u64 (fT id), .int .u64 (fI id), .int .u64 (fN id)] 39))).put (pBlk_st _ _ _) (pBlk_made w2 #[.int .i64 (fK id), .int .i64 (fW id), .int .i64 (fM id), .int .i64 (fB id), .int .u64 (fT id), .int .u64 (fI id), .int .u64 (fN id)] 39)
                clear hb
                go_wp2
                go_ret
                exact ⟨rfl, hL2.below⟩
end Go.Proofs.YtdlkfnkmdlcekaaGreatDoor
