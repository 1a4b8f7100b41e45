/- The law ParseWords, walked. Conditions: the variables that values read. -/
import Derived.Test.YtdlkfnkmdlcekaaGreatDoorFo31
import Derived.Test.YtdlkfnkmdlcekaaGreatDoorFo21
namespace Go.Proofs.YtdlkfnkmdlcekaaGreatDoor
open Go.RowKit Go.Cal
/-- What Parse tells of a word. -/
def pwV (id mode kd : Int) (neg : Bool) : Int × Int × Int :=
  if roundE id mode ≠ 0 then (0, 0, roundE id mode) else if wordB id kd neg = true then (wordP id kd neg, 0, 0) else (0, if neg = true then 1 else 0, 5)
theorem parV_word {id mode : Int} {l : List UInt8} {kd : Nat} {neg : Bool} (h : (textS l).1 = true) (hk : (textV 1125899906842624 l).kind = kd ∧ (textV 1125899906842624 l).neg = neg) (h1 : kd ≠ 1) : parV id mode l = pwV id mode (kd : Int) neg := by
  obtain ⟨it, hit⟩ : ∃ it, textV 1125899906842624 l = it := ⟨_, rfl⟩
  rw [hit] at hk
  obtain ⟨k1, k2⟩ := hk
  unfold parV pwV
  rw [hit, h]
  unfold parI
  rw [k1, k2, if_neg h1]
  simp
theorem pwV_pos {id mode kd : Int} {neg : Bool} (h1 : 1 ≤ id) (h2 : id < 15) (hm : mode = 1 ∨ mode = 2) : pwV id mode kd neg = if wordB id kd neg = true then (wordP id kd neg, 0, 0) else (0, if neg = true then 1 else 0, 5) := by
  have hE : roundE id mode = 0 := by unfold roundE; rw [if_neg (by omega), if_neg (by omega)]
  unfold pwV
  rw [hE, if_neg (by decide)]
theorem parw (q : Nat) (hq : q ≤ 2) (id mode : Int) : parV id mode ([[105, 110, 102], [110, 97, 110], [78, 97, 82]].getD q []) = pwV id mode ((q + 2 : Nat) : Int) false ∧ parV id mode (45 :: [[105, 110, 102], [110, 97, 110], [78, 97, 82]].getD q []) = pwV id mode ((q + 2 : Nat) : Int) true := by
  obtain rfl | rfl | rfl : q = 0 ∨ q = 1 ∨ q = 2 := by omega
  all_goals exact ⟨parV_word (by decide +kernel) (by decide +kernel) (by decide), parV_word (by decide +kernel) (by decide +kernel) (by decide)⟩
/-- The kinds of forms. -/
theorem fo_kinds {id : Int} (h1 : 1 ≤ id) (h2 : id < 15) : ((fI id != 0) = false ∧ (fN id != 0) = true ∧ (fK id != 1) = false ∧ (fK id == 1) = true) ∨ ((fI id != 0) = true ∧ (fN id != 0) = true ∧ (fK id != 1) = true ∧ (fK id == 1) = false) ∨
    ((fI id != 0) = false ∧ (fN id != 0) = true ∧ (fK id != 1) = true ∧ (fK id == 1) = false) ∨ ((fI id != 0) = false ∧ (fN id != 0) = false ∧ (fK id != 1) = true ∧ (fK id == 1) = false) := by
  rcases id_cases h1 h2 with rfl | rfl | rfl | rfl | rfl | rfl | rfl | rfl | rfl | rfl | rfl | rfl | rfl | rfl <;> decide +kernel
theorem wordB_nanX {id : Int} {neg x y : Bool} (h2 : (fN id != 0) = x) (h4 : (fK id == 1) = y) : wordB id 3 neg = (x && !y) := by subst h2; subst h4; rfl
theorem wordB_narX {id : Int} {neg y : Bool} (h4 : (fK id == 1) = y) : wordB id 4 neg = (y && !neg) := by subst h4; rfl
theorem pw_no {id mode kd A : Int} {neg : Bool} {l : List UInt8} (V : parV id mode l = if wordB id kd neg = true then (wordP id kd neg, 0, 0) else (0, if neg = true then 1 else 0, 5)) (h : wordB id kd neg = false) (hA : (if neg = true then (1 : Int) else 0) = A) : parV id mode l = (0, A, 5) := by
  rw [V, h, if_neg (by decide), hA]
theorem pw_yes {id mode kd P : Int} {neg : Bool} {l : List UInt8} (V : parV id mode l = if wordB id kd neg = true then (wordP id kd neg, 0, 0) else (0, if neg = true then 1 else 0, 5)) (h : wordB id kd neg = true) (hP : wordP id kd neg = P) : parV id mode l = (P, 0, 0) := by
  rw [V, h, if_pos rfl, hP]
theorem word_is (id P : Int) (h1 : 1 ≤ id) (h2 : id < 15) (kd : Int) (neg : Bool) (hk : kd = 2 ∨ kd = 3 ∨ kd = 4) (hb : wordB id kd neg = true) (hP : wordP id kd neg = P) (w : World) (hW : VaW w) :
    Calls Tryz.prog 24 #[.int .i64 id, .int .u64 P] w fun e w' => e = .returned (.tuple #[.int .u64 P, .int .i64 0]) ∧ Below w.heap.size w w' := by
  obtain ⟨a, b, c⟩ := word_canon h1 h2 hk hb
  rw [hP] at a b c
  obtain ⟨-, -, h3⟩ := fitsV_zero a
  obtain ⟨w1, -⟩ := fo_wide h1 h2
  have h4 : (2 : Int) ^ (fW id).toNat ≤ 2 ^ 64 := by
    have h5 : 2 ^ (fW id).toNat ≤ 2 ^ 64 := Nat.pow_le_pow_right (by decide) w1
    exact_mod_cast h5
  have := fo_canon id P w hW.frm c (by omega)
  rw [a, b] at this
  exact this
theorem inf_sum {id : Int} (h1 : 1 ≤ id) (h2 : id < 15) (h : fI id ≠ 0) : IntKind.u64.wrap (fI id + sgV id) = fI id + 2 ^ ((fW id).toNat - 1) := by
  rcases id_cases h1 h2 with rfl | rfl | rfl | rfl | rfl | rfl | rfl | rfl | rfl | rfl | rfl | rfl | rfl | rfl <;> first | decide +kernel | (exact absurd rfl h)
set_option maxRecDepth 100000 in
set_option maxHeartbeats 2000000 in
theorem words_bad (id mode wh : Int) (neg : Bool) (w : World) (hW : VaW w) (h : roundE id mode ≠ 0) : Calls Tryz.prog 6 #[.int .i64 id, .int .i64 mode, .int .i64 wh, .bool neg] w fun e w' => e = .returned (.bool true) ∧ Below w.heap.size w w' := by
  have hsh := Lib.hid fun w hW => pshown_any w hW
  have hL := LiveP.start w
  obtain ⟨m0, hm0, hm1⟩ := and_low wh
  obtain ⟨q, hq⟩ : ∃ q, m0 % 3 = q := ⟨_, rfl⟩
  obtain ⟨v1, v2⟩ := parw q (by omega) id mode
  have hpv : ∀ kd neg, pwV id mode kd neg = (0, 0, roundE id mode) := fun kd neg => by unfold pwV; rw [if_pos h]
  rw [hpv] at v1 v2
  by_cases hid : id < 1 ∨ 15 ≤ id
  · have hE : roundE id mode = 3 := by unfold roundE; rw [if_pos hid]
    rw [hE] at v1 v2
    have hof := Lib.hid fun w => fo_none id w hid
    obtain rfl | rfl | rfl : q = 0 ∨ q = 1 ∨ q = 2 := by omega
    · have hqi : (m0 : Int) % 3 = 0 := by omega
      cases neg
      ·
        go_enter Tryz.func6, Tryz.ntmps6
        go_wp2_with fail
        refine (hsh.out _ hW).mono ?_
        rintro e w1 ⟨rfl, hb⟩
        have hL1 := hL.go hb
        go_wp2_with fail
        refine (ptext_is id mode [105, 110, 102] _ 0 0 3 (by first | rfl | kernel_rfl) (by decide) v1 (hW.below (hL1.go ((Below.refl _ _).alloc (Nat.le_refl _) _)).below)).mono ?_
        rintro e w2 ⟨rfl, hb2⟩
        have hL2 := (hL1.go ((Below.refl _ _).alloc (Nat.le_refl _) _)).go hb2
        go_wp2_with fail
        refine (hof.out _).mono ?_
        rintro e w3 ⟨rfl, hb3⟩
        have hL3 := hL2.go hb3
        go_wp2
        go_ret
        exact ⟨rfl, (hL3.go ((Below.refl _ _).alloc (Nat.le_refl _) _)).below⟩
      ·
        go_enter Tryz.func6, Tryz.ntmps6
        go_wp2_with fail
        refine (hsh.out _ hW).mono ?_
        rintro e w1 ⟨rfl, hb⟩
        have hL1 := hL.go hb
        go_wp2_with fail
        refine (ptext_is id mode [45, 105, 110, 102] _ 0 0 3 (by first | rfl | kernel_rfl) (by decide) v2 (hW.below (hL1.go ((Below.refl _ _).alloc (Nat.le_refl _) _)).below)).mono ?_
        rintro e w2 ⟨rfl, hb2⟩
        have hL2 := (hL1.go ((Below.refl _ _).alloc (Nat.le_refl _) _)).go hb2
        go_wp2_with fail
        refine (hof.out _).mono ?_
        rintro e w3 ⟨rfl, hb3⟩
        have hL3 := hL2.go hb3
        go_wp2
        go_ret
        exact ⟨rfl, (hL3.go ((Below.refl _ _).alloc (Nat.le_refl _) _)).below⟩
    · have hqi : (m0 : Int) % 3 = 1 := by omega
      cases neg
      ·
        go_enter Tryz.func6, Tryz.ntmps6
        go_wp2_with fail
        refine (hsh.out _ hW).mono ?_
        rintro e w1 ⟨rfl, hb⟩
        have hL1 := hL.go hb
        go_wp2_with fail
        refine (ptext_is id mode [110, 97, 110] _ 0 0 3 (by first | rfl | kernel_rfl) (by decide) v1 (hW.below (hL1.go ((Below.refl _ _).alloc (Nat.le_refl _) _)).below)).mono ?_
        rintro e w2 ⟨rfl, hb2⟩
        have hL2 := (hL1.go ((Below.refl _ _).alloc (Nat.le_refl _) _)).go hb2
        go_wp2_with fail
        refine (hof.out _).mono ?_
        rintro e w3 ⟨rfl, hb3⟩
        have hL3 := hL2.go hb3
        go_wp2
        go_ret
        exact ⟨rfl, (hL3.go ((Below.refl _ _).alloc (Nat.le_refl _) _)).below⟩
      ·
        go_enter Tryz.func6, Tryz.ntmps6
        go_wp2_with fail
        refine (hsh.out _ hW).mono ?_
        rintro e w1 ⟨rfl, hb⟩
        have hL1 := hL.go hb
        go_wp2_with fail
        refine (ptext_is id mode [45, 110, 97, 110] _ 0 0 3 (by first | rfl | kernel_rfl) (by decide) v2 (hW.below (hL1.go ((Below.refl _ _).alloc (Nat.le_refl _) _)).below)).mono ?_
        rintro e w2 ⟨rfl, hb2⟩
        have hL2 := (hL1.go ((Below.refl _ _).alloc (Nat.le_refl _) _)).go hb2
        go_wp2_with fail
        refine (hof.out _).mono ?_
        rintro e w3 ⟨rfl, hb3⟩
        have hL3 := hL2.go hb3
        go_wp2
        go_ret
        exact ⟨rfl, (hL3.go ((Below.refl _ _).alloc (Nat.le_refl _) _)).below⟩
    · have hqi : (m0 : Int) % 3 = 2 := by omega
      cases neg
      ·
        go_enter Tryz.func6, Tryz.ntmps6
        go_wp2_with fail
        refine (hsh.out _ hW).mono ?_
        rintro e w1 ⟨rfl, hb⟩
        have hL1 := hL.go hb
        go_wp2_with fail
        refine (ptext_is id mode [78, 97, 82] _ 0 0 3 (by first | rfl | kernel_rfl) (by decide) v1 (hW.below (hL1.go ((Below.refl _ _).alloc (Nat.le_refl _) _)).below)).mono ?_
        rintro e w2 ⟨rfl, hb2⟩
        have hL2 := (hL1.go ((Below.refl _ _).alloc (Nat.le_refl _) _)).go hb2
        go_wp2_with fail
        refine (hof.out _).mono ?_
        rintro e w3 ⟨rfl, hb3⟩
        have hL3 := hL2.go hb3
        go_wp2
        go_ret
        exact ⟨rfl, (hL3.go ((Below.refl _ _).alloc (Nat.le_refl _) _)).below⟩
      ·
        go_enter Tryz.func6, Tryz.ntmps6
        go_wp2_with fail
        refine (hsh.out _ hW).mono ?_
        rintro e w1 ⟨rfl, hb⟩
        have hL1 := hL.go hb
        go_wp2_with fail
        refine (ptext_is id mode [45, 78, 97, 82] _ 0 0 3 (by first | rfl | kernel_rfl) (by decide) v2 (hW.below (hL1.go ((Below.refl _ _).alloc (Nat.le_refl _) _)).below)).mono ?_
        rintro e w2 ⟨rfl, hb2⟩
        have hL2 := (hL1.go ((Below.refl _ _).alloc (Nat.le_refl _) _)).go hb2
        go_wp2_with fail
        refine (hof.out _).mono ?_
        rintro e w3 ⟨rfl, hb3⟩
        have hL3 := hL2.go hb3
        go_wp2
        go_ret
        exact ⟨rfl, (hL3.go ((Below.refl _ _).alloc (Nat.le_refl _) _)).below⟩
  · have h1 : 1 ≤ id := by omega
    have h2 : id < 15 := by omega
    have hE : roundE id mode = 1 ∧ mode ≠ 1 ∧ mode ≠ 2 := by
      unfold roundE at h ⊢
      rw [if_neg hid] at h ⊢
      by_cases hm : mode ≠ 1 ∧ mode ≠ 2
      · rw [if_pos hm]; exact ⟨rfl, hm⟩
      · rw [if_neg hm] at h; exact absurd rfl h
    obtain ⟨hE, n1, n2⟩ := hE
    replace n1 : (mode != 1) = true := by simp [n1]
    replace n2 : (mode != 2) = true := by simp [n2]
    rw [hE] at v1 v2
    have hof := Lib.hid fun w (hW : VaW w) => fo_of id w hW.frm h1 h2
    obtain rfl | rfl | rfl : q = 0 ∨ q = 1 ∨ q = 2 := by omega
    · have hqi : (m0 : Int) % 3 = 0 := by omega
      cases neg
      ·
        go_enter Tryz.func6, Tryz.ntmps6
        go_wp2_with fail
        refine (hsh.out _ hW).mono ?_
        rintro e w1 ⟨rfl, hb⟩
        have hL1 := hL.go hb
        go_wp2_with fail
        refine (ptext_is id mode [105, 110, 102] _ 0 0 1 (by first | rfl | kernel_rfl) (by decide) v1 (hW.below (hL1.go ((Below.refl _ _).alloc (Nat.le_refl _) _)).below)).mono ?_
        rintro e w2 ⟨rfl, hb2⟩
        have hL2 := (hL1.go ((Below.refl _ _).alloc (Nat.le_refl _) _)).go hb2
        go_wp2_with fail
        refine (hof.out _ (hW.below hL2.below)).mono ?_
        rintro e w3 ⟨rfl, hb3⟩
        have hL3 := hL2.go hb3
        go_wp2
        go_ret
        exact ⟨rfl, (hL3.go ((Below.refl _ _).alloc (Nat.le_refl _) _)).below⟩
      ·
        go_enter Tryz.func6, Tryz.ntmps6
        go_wp2_with fail
        refine (hsh.out _ hW).mono ?_
        rintro e w1 ⟨rfl, hb⟩
        have hL1 := hL.go hb
        go_wp2_with fail
        refine (ptext_is id mode [45, 105, 110, 102] _ 0 0 1 (by first | rfl | kernel_rfl) (by decide) v2 (hW.below (hL1.go ((Below.refl _ _).alloc (Nat.le_refl _) _)).below)).mono ?_
        rintro e w2 ⟨rfl, hb2⟩
        have hL2 := (hL1.go ((Below.refl _ _).alloc (Nat.le_refl _) _)).go hb2
        go_wp2_with fail
        refine (hof.out _ (hW.below hL2.below)).mono ?_
        rintro e w3 ⟨rfl, hb3⟩
        have hL3 := hL2.go hb3
        go_wp2
        go_ret
        exact ⟨rfl, (hL3.go ((Below.refl _ _).alloc (Nat.le_refl _) _)).below⟩
    · have hqi : (m0 : Int) % 3 = 1 := by omega
      cases neg
      ·
        go_enter Tryz.func6, Tryz.ntmps6
        go_wp2_with fail
        refine (hsh.out _ hW).mono ?_
        rintro e w1 ⟨rfl, hb⟩
        have hL1 := hL.go hb
        go_wp2_with fail
        refine (ptext_is id mode [110, 97, 110] _ 0 0 1 (by first | rfl | kernel_rfl) (by decide) v1 (hW.below (hL1.go ((Below.refl _ _).alloc (Nat.le_refl _) _)).below)).mono ?_
        rintro e w2 ⟨rfl, hb2⟩
        have hL2 := (hL1.go ((Below.refl _ _).alloc (Nat.le_refl _) _)).go hb2
        go_wp2_with fail
        refine (hof.out _ (hW.below hL2.below)).mono ?_
        rintro e w3 ⟨rfl, hb3⟩
        have hL3 := hL2.go hb3
        go_wp2
        go_ret
        exact ⟨rfl, (hL3.go ((Below.refl _ _).alloc (Nat.le_refl _) _)).below⟩
      ·
        go_enter Tryz.func6, Tryz.ntmps6
        go_wp2_with fail
        refine (hsh.out _ hW).mono ?_
        rintro e w1 ⟨rfl, hb⟩
        have hL1 := hL.go hb
        go_wp2_with fail
        refine (ptext_is id mode [45, 110, 97, 110] _ 0 0 1 (by first | rfl | kernel_rfl) (by decide) v2 (hW.below (hL1.go ((Below.refl _ _).alloc (Nat.le_refl _) _)).below)).mono ?_
        rintro e w2 ⟨rfl, hb2⟩
        have hL2 := (hL1.go ((Below.refl _ _).alloc (Nat.le_refl _) _)).go hb2
        go_wp2_with fail
        refine (hof.out _ (hW.below hL2.below)).mono ?_
        rintro e w3 ⟨rfl, hb3⟩
        have hL3 := hL2.go hb3
        go_wp2
        go_ret
        exact ⟨rfl, (hL3.go ((Below.refl _ _).alloc (Nat.le_refl _) _)).below⟩
    · have hqi : (m0 : Int) % 3 = 2 := by omega
      cases neg
      ·
        go_enter Tryz.func6, Tryz.ntmps6
        go_wp2_with fail
        refine (hsh.out _ hW).mono ?_
        rintro e w1 ⟨rfl, hb⟩
        have hL1 := hL.go hb
        go_wp2_with fail
        refine (ptext_is id mode [78, 97, 82] _ 0 0 1 (by first | rfl | kernel_rfl) (by decide) v1 (hW.below (hL1.go ((Below.refl _ _).alloc (Nat.le_refl _) _)).below)).mono ?_
        rintro e w2 ⟨rfl, hb2⟩
        have hL2 := (hL1.go ((Below.refl _ _).alloc (Nat.le_refl _) _)).go hb2
        go_wp2_with fail
        refine (hof.out _ (hW.below hL2.below)).mono ?_
        rintro e w3 ⟨rfl, hb3⟩
        have hL3 := hL2.go hb3
        go_wp2
        go_ret
        exact ⟨rfl, (hL3.go ((Below.refl _ _).alloc (Nat.le_refl _) _)).below⟩
      ·
        go_enter Tryz.func6, Tryz.ntmps6
        go_wp2_with fail
        refine (hsh.out _ hW).mono ?_
        rintro e w1 ⟨rfl, hb⟩
        have hL1 := hL.go hb
        go_wp2_with fail
        refine (ptext_is id mode [45, 78, 97, 82] _ 0 0 1 (by first | rfl | kernel_rfl) (by decide) v2 (hW.below (hL1.go ((Below.refl _ _).alloc (Nat.le_refl _) _)).below)).mono ?_
        rintro e w2 ⟨rfl, hb2⟩
        have hL2 := (hL1.go ((Below.refl _ _).alloc (Nat.le_refl _) _)).go hb2
        go_wp2_with fail
        refine (hof.out _ (hW.below hL2.below)).mono ?_
        rintro e w3 ⟨rfl, hb3⟩
        have hL3 := hL2.go hb3
        go_wp2
        go_ret
        exact ⟨rfl, (hL3.go ((Below.refl _ _).alloc (Nat.le_refl _) _)).below⟩
set_option maxRecDepth 100000 in
set_option maxHeartbeats 8000000 in
theorem words_goodA (id mode wh : Int) (neg : Bool) (w : World) (hW : VaW w) (h1 : 1 ≤ id) (h2 : id < 15) (hm : mode = 1 ∨ mode = 2) (m1 : (mode != 1) = false) : Calls Tryz.prog 6 #[.int .i64 id, .int .i64 mode, .int .i64 wh, .bool neg] w fun e w' => e = .returned (.bool true) ∧ Below w.heap.size w w' := by
  have hsh := Lib.hid fun w hW => pshown_any w hW
  have hL := LiveP.start w
  obtain ⟨m0, hm0, hm1⟩ := and_low wh
  obtain ⟨q, hq⟩ : ∃ q, m0 % 3 = q := ⟨_, rfl⟩
  obtain ⟨v1, v2⟩ := parw q (by omega) id mode
  rw [pwV_pos h1 h2 hm] at v1 v2
  clear hm
  have hof := Lib.hid fun w (hW : VaW w) => fo_of id w hW.frm h1 h2
  have hsg := Lib.hid fun w => fo_sgn id h1 h2 w
  have hsum := Lib.hid fun h => inf_sum h1 h2 h
  rcases fo_kinds h1 h2 with ⟨b1, b2, b3, b4⟩ | ⟨b1, b2, b3, b4⟩ | ⟨b1, b2, b3, b4⟩ | ⟨b1, b2, b3, b4⟩
  · obtain rfl | rfl | rfl : q = 0 ∨ q = 1 ∨ q = 2 := by omega
    · have hqi : (m0 : Int) % 3 = 0 := by omega
      cases neg
      ·
        have hv : parV id mode [105, 110, 102] = (0, 0, 5) := pw_no (kd := 2) v1 (b1) rfl
        go_enter Tryz.func6, Tryz.ntmps6
        go_wp2_with fail
        refine (hsh.out _ hW).mono ?_
        rintro e w1 ⟨rfl, hb⟩
        have hL1 := hL.go hb
        go_wp2_with fail
        refine (ptext_is id mode [105, 110, 102] _ 0 0 5 (by first | rfl | kernel_rfl) (by decide) hv (hW.below (hL1.go ((Below.refl _ _).alloc (Nat.le_refl _) _)).below)).mono ?_
        rintro e w2 ⟨rfl, hb2⟩
        have hL2 := (hL1.go ((Below.refl _ _).alloc (Nat.le_refl _) _)).go hb2
        go_wp2_with fail
        refine (hof.out _ (hW.below hL2.below)).mono ?_
        rintro e w3 ⟨rfl, hb3⟩
        have hL3 := hL2.go hb3
        go_wp2
        go_ret
        exact ⟨rfl, (hL3.go (((Below.refl _ _).alloc (Nat.le_refl _) _).alloc (by simp) _)).below⟩
      ·
        have hv : parV id mode [45, 105, 110, 102] = (0, 1, 5) := pw_no (kd := 2) v2 (b1) rfl
        go_enter Tryz.func6, Tryz.ntmps6
        go_wp2_with fail
        refine (hsh.out _ hW).mono ?_
        rintro e w1 ⟨rfl, hb⟩
        have hL1 := hL.go hb
        go_wp2_with fail
        refine (ptext_is id mode [45, 105, 110, 102] _ 0 1 5 (by first | rfl | kernel_rfl) (by decide) hv (hW.below (hL1.go ((Below.refl _ _).alloc (Nat.le_refl _) _)).below)).mono ?_
        rintro e w2 ⟨rfl, hb2⟩
        have hL2 := (hL1.go ((Below.refl _ _).alloc (Nat.le_refl _) _)).go hb2
        go_wp2_with fail
        refine (hof.out _ (hW.below hL2.below)).mono ?_
        rintro e w3 ⟨rfl, hb3⟩
        have hL3 := hL2.go hb3
        go_wp2
        go_ret
        exact ⟨rfl, (hL3.go (((Below.refl _ _).alloc (Nat.le_refl _) _).alloc (by simp) _)).below⟩
    · have hqi : (m0 : Int) % 3 = 1 := by omega
      cases neg
      ·
        have hv : parV id mode [110, 97, 110] = (0, 0, 5) := pw_no (kd := 3) v1 (wordB_nanX b2 b4) rfl
        go_enter Tryz.func6, Tryz.ntmps6
        go_wp2_with fail
        refine (hsh.out _ hW).mono ?_
        rintro e w1 ⟨rfl, hb⟩
        have hL1 := hL.go hb
        go_wp2_with fail
        refine (ptext_is id mode [110, 97, 110] _ 0 0 5 (by first | rfl | kernel_rfl) (by decide) hv (hW.below (hL1.go ((Below.refl _ _).alloc (Nat.le_refl _) _)).below)).mono ?_
        rintro e w2 ⟨rfl, hb2⟩
        have hL2 := (hL1.go ((Below.refl _ _).alloc (Nat.le_refl _) _)).go hb2
        go_wp2_with fail
        refine (hof.out _ (hW.below hL2.below)).mono ?_
        rintro e w3 ⟨rfl, hb3⟩
        have hL3 := hL2.go hb3
        go_wp2
        go_ret
        exact ⟨rfl, (hL3.go (((Below.refl _ _).alloc (Nat.le_refl _) _).alloc (by simp) _)).below⟩
      ·
        have hv : parV id mode [45, 110, 97, 110] = (0, 1, 5) := pw_no (kd := 3) v2 (wordB_nanX b2 b4) rfl
        go_enter Tryz.func6, Tryz.ntmps6
        go_wp2_with fail
        refine (hsh.out _ hW).mono ?_
        rintro e w1 ⟨rfl, hb⟩
        have hL1 := hL.go hb
        go_wp2_with fail
        refine (ptext_is id mode [45, 110, 97, 110] _ 0 1 5 (by first | rfl | kernel_rfl) (by decide) hv (hW.below (hL1.go ((Below.refl _ _).alloc (Nat.le_refl _) _)).below)).mono ?_
        rintro e w2 ⟨rfl, hb2⟩
        have hL2 := (hL1.go ((Below.refl _ _).alloc (Nat.le_refl _) _)).go hb2
        go_wp2_with fail
        refine (hof.out _ (hW.below hL2.below)).mono ?_
        rintro e w3 ⟨rfl, hb3⟩
        have hL3 := hL2.go hb3
        go_wp2
        go_ret
        exact ⟨rfl, (hL3.go (((Below.refl _ _).alloc (Nat.le_refl _) _).alloc (by simp) _)).below⟩
    · have hqi : (m0 : Int) % 3 = 2 := by omega
      cases neg
      ·
        have hb : wordB id 4 false = true := wordB_narX b4
        have hv : parV id mode [78, 97, 82] = (fN id, 0, 0) := pw_yes (kd := 4) v1 hb rfl
        have hcn := word_is id (fN id) h1 h2 4 false (by decide) hb rfl
        clear hb
        go_enter Tryz.func6, Tryz.ntmps6
        go_wp2_with fail
        refine (hsh.out _ hW).mono ?_
        rintro e w1 ⟨rfl, hb⟩
        have hL1 := hL.go hb
        go_wp2_with fail
        refine (ptext_is id mode [78, 97, 82] _ (fN id) 0 0 (by first | rfl | kernel_rfl) (by decide) hv (hW.below (hL1.go ((Below.refl _ _).alloc (Nat.le_refl _) _)).below)).mono ?_
        rintro e w2 ⟨rfl, hb2⟩
        have hL2 := (hL1.go ((Below.refl _ _).alloc (Nat.le_refl _) _)).go hb2
        go_wp2_with fail
        refine (hof.out _ (hW.below hL2.below)).mono ?_
        rintro e w3 ⟨rfl, hb3⟩
        have hL3 := hL2.go hb3
        go_wp2_with fail
        refine (hcn _ (hW.below (hL3.go (((Below.refl _ _).alloc (Nat.le_refl _) _).alloc (by simp) _)).below)).mono ?_
        rintro e w4 ⟨rfl, hb4⟩
        go_wp2
        go_ret
        exact ⟨by first | rfl | simp, ((hL3.go (((Below.refl _ _).alloc (Nat.le_refl _) _).alloc (by simp) _)).go hb4).below⟩
      ·
        have hv : parV id mode [45, 78, 97, 82] = (0, 1, 5) := pw_no (kd := 4) v2 (wordB_narX b4) rfl
        go_enter Tryz.func6, Tryz.ntmps6
        go_wp2_with fail
        refine (hsh.out _ hW).mono ?_
        rintro e w1 ⟨rfl, hb⟩
        have hL1 := hL.go hb
        go_wp2_with fail
        refine (ptext_is id mode [45, 78, 97, 82] _ 0 1 5 (by first | rfl | kernel_rfl) (by decide) hv (hW.below (hL1.go ((Below.refl _ _).alloc (Nat.le_refl _) _)).below)).mono ?_
        rintro e w2 ⟨rfl, hb2⟩
        have hL2 := (hL1.go ((Below.refl _ _).alloc (Nat.le_refl _) _)).go hb2
        go_wp2_with fail
        refine (hof.out _ (hW.below hL2.below)).mono ?_
        rintro e w3 ⟨rfl, hb3⟩
        have hL3 := hL2.go hb3
        go_wp2
        go_ret
        exact ⟨rfl, (hL3.go (((Below.refl _ _).alloc (Nat.le_refl _) _).alloc (by simp) _)).below⟩
  · obtain rfl | rfl | rfl : q = 0 ∨ q = 1 ∨ q = 2 := by omega
    · have hqi : (m0 : Int) % 3 = 0 := by omega
      cases neg
      ·
        have hb : wordB id 2 false = true := b1
        have hv : parV id mode [105, 110, 102] = (fI id, 0, 0) := pw_yes (kd := 2) v1 hb rfl
        have hcn := word_is id (fI id) h1 h2 2 false (by decide) hb rfl
        clear hb
        go_enter Tryz.func6, Tryz.ntmps6
        go_wp2_with fail
        refine (hsh.out _ hW).mono ?_
        rintro e w1 ⟨rfl, hb⟩
        have hL1 := hL.go hb
        go_wp2_with fail
        refine (ptext_is id mode [105, 110, 102] _ (fI id) 0 0 (by first | rfl | kernel_rfl) (by decide) hv (hW.below (hL1.go ((Below.refl _ _).alloc (Nat.le_refl _) _)).below)).mono ?_
        rintro e w2 ⟨rfl, hb2⟩
        have hL2 := (hL1.go ((Below.refl _ _).alloc (Nat.le_refl _) _)).go hb2
        go_wp2_with fail
        refine (hof.out _ (hW.below hL2.below)).mono ?_
        rintro e w3 ⟨rfl, hb3⟩
        have hL3 := hL2.go hb3
        go_wp2_with fail
        refine (hcn _ (hW.below (hL3.go (((Below.refl _ _).alloc (Nat.le_refl _) _).alloc (by simp) _)).below)).mono ?_
        rintro e w4 ⟨rfl, hb4⟩
        go_wp2
        go_ret
        exact ⟨by first | rfl | simp, ((hL3.go (((Below.refl _ _).alloc (Nat.le_refl _) _).alloc (by simp) _)).go hb4).below⟩
      ·
        have hb : wordB id 2 true = true := b1
        have hv : parV id mode [45, 105, 110, 102] = (fI id + 2 ^ ((fW id).toNat - 1), 0, 0) := pw_yes (kd := 2) v2 hb rfl
        have hcn := word_is id (fI id + 2 ^ ((fW id).toNat - 1)) h1 h2 2 true (by decide) hb rfl
        clear hb
        go_enter Tryz.func6, Tryz.ntmps6
        go_wp2_with fail
        refine (hsh.out _ hW).mono ?_
        rintro e w1 ⟨rfl, hb⟩
        have hL1 := hL.go hb
        go_wp2_with fail
        refine (ptext_is id mode [45, 105, 110, 102] _ (fI id + 2 ^ ((fW id).toNat - 1)) 0 0 (by first | rfl | kernel_rfl) (by decide) hv (hW.below (hL1.go ((Below.refl _ _).alloc (Nat.le_refl _) _)).below)).mono ?_
        rintro e w2 ⟨rfl, hb2⟩
        have hL2 := (hL1.go ((Below.refl _ _).alloc (Nat.le_refl _) _)).go hb2
        go_wp2_with fail
        refine (hof.out _ (hW.below hL2.below)).mono ?_
        rintro e w3 ⟨rfl, hb3⟩
        have hL3 := hL2.go hb3
        have c0 := fun (u : Later (w3.heap.size + 2) ((w3.alloc (.cells #[.int .i64 (fK id), .int .i64 (fW id), .int .i64 (fM id), .int .i64 (fB id), .int .u64 (fT id), .int .u64 (fI id), .int .u64 (fN id)] 39)).alloc (.cells #[.bool true, .bool true, .bool false] 4))) => u.cell w3.heap.size 0 (.int .i64 (fK id)) (by omega) (by simp)
        have c1 := fun (u : Later (w3.heap.size + 2) ((w3.alloc (.cells #[.int .i64 (fK id), .int .i64 (fW id), .int .i64 (fM id), .int .i64 (fB id), .int .u64 (fT id), .int .u64 (fI id), .int .u64 (fN id)] 39)).alloc (.cells #[.bool true, .bool true, .bool false] 4))) => u.cell w3.heap.size 1 (.int .i64 (fW id)) (by omega) (by simp)
        have c2 := fun (u : Later (w3.heap.size + 2) ((w3.alloc (.cells #[.int .i64 (fK id), .int .i64 (fW id), .int .i64 (fM id), .int .i64 (fB id), .int .u64 (fT id), .int .u64 (fI id), .int .u64 (fN id)] 39)).alloc (.cells #[.bool true, .bool true, .bool false] 4))) => u.cell w3.heap.size 2 (.int .i64 (fM id)) (by omega) (by simp)
        have c3 := fun (u : Later (w3.heap.size + 2) ((w3.alloc (.cells #[.int .i64 (fK id), .int .i64 (fW id), .int .i64 (fM id), .int .i64 (fB id), .int .u64 (fT id), .int .u64 (fI id), .int .u64 (fN id)] 39)).alloc (.cells #[.bool true, .bool true, .bool false] 4))) => u.cell w3.heap.size 3 (.int .i64 (fB id)) (by omega) (by simp)
        have c4 := fun (u : Later (w3.heap.size + 2) ((w3.alloc (.cells #[.int .i64 (fK id), .int .i64 (fW id), .int .i64 (fM id), .int .i64 (fB id), .int .u64 (fT id), .int .u64 (fI id), .int .u64 (fN id)] 39)).alloc (.cells #[.bool true, .bool true, .bool false] 4))) => u.cell w3.heap.size 4 (.int .u64 (fT id)) (by omega) (by simp)
        have c5 := fun (u : Later (w3.heap.size + 2) ((w3.alloc (.cells #[.int .i64 (fK id), .int .i64 (fW id), .int .i64 (fM id), .int .i64 (fB id), .int .u64 (fT id), .int .u64 (fI id), .int .u64 (fN id)] 39)).alloc (.cells #[.bool true, .bool true, .bool false] 4))) => u.cell w3.heap.size 5 (.int .u64 (fI id)) (by omega) (by simp)
        have c6 := fun (u : Later (w3.heap.size + 2) ((w3.alloc (.cells #[.int .i64 (fK id), .int .i64 (fW id), .int .i64 (fM id), .int .i64 (fB id), .int .u64 (fT id), .int .u64 (fI id), .int .u64 (fN id)] 39)).alloc (.cells #[.bool true, .bool true, .bool false] 4))) => u.cell w3.heap.size 6 (.int .u64 (fN id)) (by omega) (by simp)
        have hX := hL3.go (((Below.refl _ _).alloc (Nat.le_refl _) (.cells #[.int .i64 (fK id), .int .i64 (fW id), .int .i64 (fM id), .int .i64 (fB id), .int .u64 (fT id), .int .u64 (fI id), .int .u64 (fN id)] 39)).alloc (by simp) (.cells #[.bool true, .bool true, .bool false] 4))
        go_wp2_with fail
        refine wp_region_later (B := w3.heap.size + 2) (by kernel_rfl) (by kernel_rfl) (Below.refl _ _) ?_
        repeat (go_big_quiet_step ((go_at_call 22; exact Calls.later_of (by simp) (hsg.out _))))
        refine wpQuiet_nil ?_
        intro w4 hb4
        have hL4 := hX.go (hb4.mono (by simp))
        clear c0 c1 c2 c3 c4 c5 c6
        have hs2 := hsum.out (by simpa using b1)
        go_wp2_with fail
        refine (hcn _ (hW.below hL4.below)).mono ?_
        rintro e w5 ⟨rfl, hb5⟩
        go_wp2
        go_ret
        exact ⟨by first | rfl | simp, (hL4.go hb5).below⟩
    · have hqi : (m0 : Int) % 3 = 1 := by omega
      cases neg
      ·
        have hb : wordB id 3 false = true := wordB_nanX b2 b4
        have hv : parV id mode [110, 97, 110] = (fN id, 0, 0) := pw_yes (kd := 3) v1 hb rfl
        have hcn := word_is id (fN id) h1 h2 3 false (by decide) hb rfl
        clear hb
        go_enter Tryz.func6, Tryz.ntmps6
        go_wp2_with fail
        refine (hsh.out _ hW).mono ?_
        rintro e w1 ⟨rfl, hb⟩
        have hL1 := hL.go hb
        go_wp2_with fail
        refine (ptext_is id mode [110, 97, 110] _ (fN id) 0 0 (by first | rfl | kernel_rfl) (by decide) hv (hW.below (hL1.go ((Below.refl _ _).alloc (Nat.le_refl _) _)).below)).mono ?_
        rintro e w2 ⟨rfl, hb2⟩
        have hL2 := (hL1.go ((Below.refl _ _).alloc (Nat.le_refl _) _)).go hb2
        go_wp2_with fail
        refine (hof.out _ (hW.below hL2.below)).mono ?_
        rintro e w3 ⟨rfl, hb3⟩
        have hL3 := hL2.go hb3
        go_wp2_with fail
        refine (hcn _ (hW.below (hL3.go (((Below.refl _ _).alloc (Nat.le_refl _) _).alloc (by simp) _)).below)).mono ?_
        rintro e w4 ⟨rfl, hb4⟩
        go_wp2
        go_ret
        exact ⟨by first | rfl | simp, ((hL3.go (((Below.refl _ _).alloc (Nat.le_refl _) _).alloc (by simp) _)).go hb4).below⟩
      ·
        have hb : wordB id 3 true = true := wordB_nanX b2 b4
        have hv : parV id mode [45, 110, 97, 110] = (fN id, 0, 0) := pw_yes (kd := 3) v2 hb rfl
        have hcn := word_is id (fN id) h1 h2 3 true (by decide) hb rfl
        clear hb
        go_enter Tryz.func6, Tryz.ntmps6
        go_wp2_with fail
        refine (hsh.out _ hW).mono ?_
        rintro e w1 ⟨rfl, hb⟩
        have hL1 := hL.go hb
        go_wp2_with fail
        refine (ptext_is id mode [45, 110, 97, 110] _ (fN id) 0 0 (by first | rfl | kernel_rfl) (by decide) hv (hW.below (hL1.go ((Below.refl _ _).alloc (Nat.le_refl _) _)).below)).mono ?_
        rintro e w2 ⟨rfl, hb2⟩
        have hL2 := (hL1.go ((Below.refl _ _).alloc (Nat.le_refl _) _)).go hb2
        go_wp2_with fail
        refine (hof.out _ (hW.below hL2.below)).mono ?_
        rintro e w3 ⟨rfl, hb3⟩
        have hL3 := hL2.go hb3
        go_wp2_with fail
        refine (hcn _ (hW.below (hL3.go (((Below.refl _ _).alloc (Nat.le_refl _) _).alloc (by simp) _)).below)).mono ?_
        rintro e w4 ⟨rfl, hb4⟩
        go_wp2
        go_ret
        exact ⟨by first | rfl | simp, ((hL3.go (((Below.refl _ _).alloc (Nat.le_refl _) _).alloc (by simp) _)).go hb4).below⟩
    · have hqi : (m0 : Int) % 3 = 2 := by omega
      cases neg
      ·
        have hv : parV id mode [78, 97, 82] = (0, 0, 5) := pw_no (kd := 4) v1 (wordB_narX b4) rfl
        go_enter Tryz.func6, Tryz.ntmps6
        go_wp2_with fail
        refine (hsh.out _ hW).mono ?_
        rintro e w1 ⟨rfl, hb⟩
        have hL1 := hL.go hb
        go_wp2_with fail
        refine (ptext_is id mode [78, 97, 82] _ 0 0 5 (by first | rfl | kernel_rfl) (by decide) hv (hW.below (hL1.go ((Below.refl _ _).alloc (Nat.le_refl _) _)).below)).mono ?_
        rintro e w2 ⟨rfl, hb2⟩
        have hL2 := (hL1.go ((Below.refl _ _).alloc (Nat.le_refl _) _)).go hb2
        go_wp2_with fail
        refine (hof.out _ (hW.below hL2.below)).mono ?_
        rintro e w3 ⟨rfl, hb3⟩
        have hL3 := hL2.go hb3
        go_wp2
        go_ret
        exact ⟨rfl, (hL3.go (((Below.refl _ _).alloc (Nat.le_refl _) _).alloc (by simp) _)).below⟩
      ·
        have hv : parV id mode [45, 78, 97, 82] = (0, 1, 5) := pw_no (kd := 4) v2 (wordB_narX b4) rfl
        go_enter Tryz.func6, Tryz.ntmps6
        go_wp2_with fail
        refine (hsh.out _ hW).mono ?_
        rintro e w1 ⟨rfl, hb⟩
        have hL1 := hL.go hb
        go_wp2_with fail
        refine (ptext_is id mode [45, 78, 97, 82] _ 0 1 5 (by first | rfl | kernel_rfl) (by decide) hv (hW.below (hL1.go ((Below.refl _ _).alloc (Nat.le_refl _) _)).below)).mono ?_
        rintro e w2 ⟨rfl, hb2⟩
        have hL2 := (hL1.go ((Below.refl _ _).alloc (Nat.le_refl _) _)).go hb2
        go_wp2_with fail
        refine (hof.out _ (hW.below hL2.below)).mono ?_
        rintro e w3 ⟨rfl, hb3⟩
        have hL3 := hL2.go hb3
        go_wp2
        go_ret
        exact ⟨rfl, (hL3.go (((Below.refl _ _).alloc (Nat.le_refl _) _).alloc (by simp) _)).below⟩
  · obtain rfl | rfl | rfl : q = 0 ∨ q = 1 ∨ q = 2 := by omega
    · have hqi : (m0 : Int) % 3 = 0 := by omega
      cases neg
      ·
        have hv : parV id mode [105, 110, 102] = (0, 0, 5) := pw_no (kd := 2) v1 (b1) rfl
        go_enter Tryz.func6, Tryz.ntmps6
        go_wp2_with fail
        refine (hsh.out _ hW).mono ?_
        rintro e w1 ⟨rfl, hb⟩
        have hL1 := hL.go hb
        go_wp2_with fail
        refine (ptext_is id mode [105, 110, 102] _ 0 0 5 (by first | rfl | kernel_rfl) (by decide) hv (hW.below (hL1.go ((Below.refl _ _).alloc (Nat.le_refl _) _)).below)).mono ?_
        rintro e w2 ⟨rfl, hb2⟩
        have hL2 := (hL1.go ((Below.refl _ _).alloc (Nat.le_refl _) _)).go hb2
        go_wp2_with fail
        refine (hof.out _ (hW.below hL2.below)).mono ?_
        rintro e w3 ⟨rfl, hb3⟩
        have hL3 := hL2.go hb3
        go_wp2
        go_ret
        exact ⟨rfl, (hL3.go (((Below.refl _ _).alloc (Nat.le_refl _) _).alloc (by simp) _)).below⟩
      ·
        have hv : parV id mode [45, 105, 110, 102] = (0, 1, 5) := pw_no (kd := 2) v2 (b1) rfl
        go_enter Tryz.func6, Tryz.ntmps6
        go_wp2_with fail
        refine (hsh.out _ hW).mono ?_
        rintro e w1 ⟨rfl, hb⟩
        have hL1 := hL.go hb
        go_wp2_with fail
        refine (ptext_is id mode [45, 105, 110, 102] _ 0 1 5 (by first | rfl | kernel_rfl) (by decide) hv (hW.below (hL1.go ((Below.refl _ _).alloc (Nat.le_refl _) _)).below)).mono ?_
        rintro e w2 ⟨rfl, hb2⟩
        have hL2 := (hL1.go ((Below.refl _ _).alloc (Nat.le_refl _) _)).go hb2
        go_wp2_with fail
        refine (hof.out _ (hW.below hL2.below)).mono ?_
        rintro e w3 ⟨rfl, hb3⟩
        have hL3 := hL2.go hb3
        go_wp2
        go_ret
        exact ⟨rfl, (hL3.go (((Below.refl _ _).alloc (Nat.le_refl _) _).alloc (by simp) _)).below⟩
    · have hqi : (m0 : Int) % 3 = 1 := by omega
      cases neg
      ·
        have hb : wordB id 3 false = true := wordB_nanX b2 b4
        have hv : parV id mode [110, 97, 110] = (fN id, 0, 0) := pw_yes (kd := 3) v1 hb rfl
        have hcn := word_is id (fN id) h1 h2 3 false (by decide) hb rfl
        clear hb
        go_enter Tryz.func6, Tryz.ntmps6
        go_wp2_with fail
        refine (hsh.out _ hW).mono ?_
        rintro e w1 ⟨rfl, hb⟩
        have hL1 := hL.go hb
        go_wp2_with fail
        refine (ptext_is id mode [110, 97, 110] _ (fN id) 0 0 (by first | rfl | kernel_rfl) (by decide) hv (hW.below (hL1.go ((Below.refl _ _).alloc (Nat.le_refl _) _)).below)).mono ?_
        rintro e w2 ⟨rfl, hb2⟩
        have hL2 := (hL1.go ((Below.refl _ _).alloc (Nat.le_refl _) _)).go hb2
        go_wp2_with fail
        refine (hof.out _ (hW.below hL2.below)).mono ?_
        rintro e w3 ⟨rfl, hb3⟩
        have hL3 := hL2.go hb3
        go_wp2_with fail
        refine (hcn _ (hW.below (hL3.go (((Below.refl _ _).alloc (Nat.le_refl _) _).alloc (by simp) _)).below)).mono ?_
        rintro e w4 ⟨rfl, hb4⟩
        go_wp2
        go_ret
        exact ⟨by first | rfl | simp, ((hL3.go (((Below.refl _ _).alloc (Nat.le_refl _) _).alloc (by simp) _)).go hb4).below⟩
      ·
        have hb : wordB id 3 true = true := wordB_nanX b2 b4
        have hv : parV id mode [45, 110, 97, 110] = (fN id, 0, 0) := pw_yes (kd := 3) v2 hb rfl
        have hcn := word_is id (fN id) h1 h2 3 true (by decide) hb rfl
        clear hb
        go_enter Tryz.func6, Tryz.ntmps6
        go_wp2_with fail
        refine (hsh.out _ hW).mono ?_
        rintro e w1 ⟨rfl, hb⟩
        have hL1 := hL.go hb
        go_wp2_with fail
        refine (ptext_is id mode [45, 110, 97, 110] _ (fN id) 0 0 (by first | rfl | kernel_rfl) (by decide) hv (hW.below (hL1.go ((Below.refl _ _).alloc (Nat.le_refl _) _)).below)).mono ?_
        rintro e w2 ⟨rfl, hb2⟩
        have hL2 := (hL1.go ((Below.refl _ _).alloc (Nat.le_refl _) _)).go hb2
        go_wp2_with fail
        refine (hof.out _ (hW.below hL2.below)).mono ?_
        rintro e w3 ⟨rfl, hb3⟩
        have hL3 := hL2.go hb3
        go_wp2_with fail
        refine (hcn _ (hW.below (hL3.go (((Below.refl _ _).alloc (Nat.le_refl _) _).alloc (by simp) _)).below)).mono ?_
        rintro e w4 ⟨rfl, hb4⟩
        go_wp2
        go_ret
        exact ⟨by first | rfl | simp, ((hL3.go (((Below.refl _ _).alloc (Nat.le_refl _) _).alloc (by simp) _)).go hb4).below⟩
    · have hqi : (m0 : Int) % 3 = 2 := by omega
      cases neg
      ·
        have hv : parV id mode [78, 97, 82] = (0, 0, 5) := pw_no (kd := 4) v1 (wordB_narX b4) rfl
        go_enter Tryz.func6, Tryz.ntmps6
        go_wp2_with fail
        refine (hsh.out _ hW).mono ?_
        rintro e w1 ⟨rfl, hb⟩
        have hL1 := hL.go hb
        go_wp2_with fail
        refine (ptext_is id mode [78, 97, 82] _ 0 0 5 (by first | rfl | kernel_rfl) (by decide) hv (hW.below (hL1.go ((Below.refl _ _).alloc (Nat.le_refl _) _)).below)).mono ?_
        rintro e w2 ⟨rfl, hb2⟩
        have hL2 := (hL1.go ((Below.refl _ _).alloc (Nat.le_refl _) _)).go hb2
        go_wp2_with fail
        refine (hof.out _ (hW.below hL2.below)).mono ?_
        rintro e w3 ⟨rfl, hb3⟩
        have hL3 := hL2.go hb3
        go_wp2
        go_ret
        exact ⟨rfl, (hL3.go (((Below.refl _ _).alloc (Nat.le_refl _) _).alloc (by simp) _)).below⟩
      ·
        have hv : parV id mode [45, 78, 97, 82] = (0, 1, 5) := pw_no (kd := 4) v2 (wordB_narX b4) rfl
        go_enter Tryz.func6, Tryz.ntmps6
        go_wp2_with fail
        refine (hsh.out _ hW).mono ?_
        rintro e w1 ⟨rfl, hb⟩
        have hL1 := hL.go hb
        go_wp2_with fail
        refine (ptext_is id mode [45, 78, 97, 82] _ 0 1 5 (by first | rfl | kernel_rfl) (by decide) hv (hW.below (hL1.go ((Below.refl _ _).alloc (Nat.le_refl _) _)).below)).mono ?_
        rintro e w2 ⟨rfl, hb2⟩
        have hL2 := (hL1.go ((Below.refl _ _).alloc (Nat.le_refl _) _)).go hb2
        go_wp2_with fail
        refine (hof.out _ (hW.below hL2.below)).mono ?_
        rintro e w3 ⟨rfl, hb3⟩
        have hL3 := hL2.go hb3
        go_wp2
        go_ret
        exact ⟨rfl, (hL3.go (((Below.refl _ _).alloc (Nat.le_refl _) _).alloc (by simp) _)).below⟩
  · obtain rfl | rfl | rfl : q = 0 ∨ q = 1 ∨ q = 2 := by omega
    · have hqi : (m0 : Int) % 3 = 0 := by omega
      cases neg
      ·
        have hv : parV id mode [105, 110, 102] = (0, 0, 5) := pw_no (kd := 2) v1 (b1) rfl
        go_enter Tryz.func6, Tryz.ntmps6
        go_wp2_with fail
        refine (hsh.out _ hW).mono ?_
        rintro e w1 ⟨rfl, hb⟩
        have hL1 := hL.go hb
        go_wp2_with fail
        refine (ptext_is id mode [105, 110, 102] _ 0 0 5 (by first | rfl | kernel_rfl) (by decide) hv (hW.below (hL1.go ((Below.refl _ _).alloc (Nat.le_refl _) _)).below)).mono ?_
        rintro e w2 ⟨rfl, hb2⟩
        have hL2 := (hL1.go ((Below.refl _ _).alloc (Nat.le_refl _) _)).go hb2
        go_wp2_with fail
        refine (hof.out _ (hW.below hL2.below)).mono ?_
        rintro e w3 ⟨rfl, hb3⟩
        have hL3 := hL2.go hb3
        go_wp2
        go_ret
        exact ⟨rfl, (hL3.go (((Below.refl _ _).alloc (Nat.le_refl _) _).alloc (by simp) _)).below⟩
      ·
        have hv : parV id mode [45, 105, 110, 102] = (0, 1, 5) := pw_no (kd := 2) v2 (b1) rfl
        go_enter Tryz.func6, Tryz.ntmps6
        go_wp2_with fail
        refine (hsh.out _ hW).mono ?_
        rintro e w1 ⟨rfl, hb⟩
        have hL1 := hL.go hb
        go_wp2_with fail
        refine (ptext_is id mode [45, 105, 110, 102] _ 0 1 5 (by first | rfl | kernel_rfl) (by decide) hv (hW.below (hL1.go ((Below.refl _ _).alloc (Nat.le_refl _) _)).below)).mono ?_
        rintro e w2 ⟨rfl, hb2⟩
        have hL2 := (hL1.go ((Below.refl _ _).alloc (Nat.le_refl _) _)).go hb2
        go_wp2_with fail
        refine (hof.out _ (hW.below hL2.below)).mono ?_
        rintro e w3 ⟨rfl, hb3⟩
        have hL3 := hL2.go hb3
        go_wp2
        go_ret
        exact ⟨rfl, (hL3.go (((Below.refl _ _).alloc (Nat.le_refl _) _).alloc (by simp) _)).below⟩
    · have hqi : (m0 : Int) % 3 = 1 := by omega
      cases neg
      ·
        have hv : parV id mode [110, 97, 110] = (0, 0, 5) := pw_no (kd := 3) v1 (wordB_nanX b2 b4) rfl
        go_enter Tryz.func6, Tryz.ntmps6
        go_wp2_with fail
        refine (hsh.out _ hW).mono ?_
        rintro e w1 ⟨rfl, hb⟩
        have hL1 := hL.go hb
        go_wp2_with fail
        refine (ptext_is id mode [110, 97, 110] _ 0 0 5 (by first | rfl | kernel_rfl) (by decide) hv (hW.below (hL1.go ((Below.refl _ _).alloc (Nat.le_refl _) _)).below)).mono ?_
        rintro e w2 ⟨rfl, hb2⟩
        have hL2 := (hL1.go ((Below.refl _ _).alloc (Nat.le_refl _) _)).go hb2
        go_wp2_with fail
        refine (hof.out _ (hW.below hL2.below)).mono ?_
        rintro e w3 ⟨rfl, hb3⟩
        have hL3 := hL2.go hb3
        go_wp2
        go_ret
        exact ⟨rfl, (hL3.go (((Below.refl _ _).alloc (Nat.le_refl _) _).alloc (by simp) _)).below⟩
      ·
        have hv : parV id mode [45, 110, 97, 110] = (0, 1, 5) := pw_no (kd := 3) v2 (wordB_nanX b2 b4) rfl
        go_enter Tryz.func6, Tryz.ntmps6
        go_wp2_with fail
        refine (hsh.out _ hW).mono ?_
        rintro e w1 ⟨rfl, hb⟩
        have hL1 := hL.go hb
        go_wp2_with fail
        refine (ptext_is id mode [45, 110, 97, 110] _ 0 1 5 (by first | rfl | kernel_rfl) (by decide) hv (hW.below (hL1.go ((Below.refl _ _).alloc (Nat.le_refl _) _)).below)).mono ?_
        rintro e w2 ⟨rfl, hb2⟩
        have hL2 := (hL1.go ((Below.refl _ _).alloc (Nat.le_refl _) _)).go hb2
        go_wp2_with fail
        refine (hof.out _ (hW.below hL2.below)).mono ?_
        rintro e w3 ⟨rfl, hb3⟩
        have hL3 := hL2.go hb3
        go_wp2
        go_ret
        exact ⟨rfl, (hL3.go (((Below.refl _ _).alloc (Nat.le_refl _) _).alloc (by simp) _)).below⟩
    · have hqi : (m0 : Int) % 3 = 2 := by omega
      cases neg
      ·
        have hv : parV id mode [78, 97, 82] = (0, 0, 5) := pw_no (kd := 4) v1 (wordB_narX b4) rfl
        go_enter Tryz.func6, Tryz.ntmps6
        go_wp2_with fail
        refine (hsh.out _ hW).mono ?_
        rintro e w1 ⟨rfl, hb⟩
        have hL1 := hL.go hb
        go_wp2_with fail
        refine (ptext_is id mode [78, 97, 82] _ 0 0 5 (by first | rfl | kernel_rfl) (by decide) hv (hW.below (hL1.go ((Below.refl _ _).alloc (Nat.le_refl _) _)).below)).mono ?_
        rintro e w2 ⟨rfl, hb2⟩
        have hL2 := (hL1.go ((Below.refl _ _).alloc (Nat.le_refl _) _)).go hb2
        go_wp2_with fail
        refine (hof.out _ (hW.below hL2.below)).mono ?_
        rintro e w3 ⟨rfl, hb3⟩
        have hL3 := hL2.go hb3
        go_wp2
        go_ret
        exact ⟨rfl, (hL3.go (((Below.refl _ _).alloc (Nat.le_refl _) _).alloc (by simp) _)).below⟩
      ·
        have hv : parV id mode [45, 78, 97, 82] = (0, 1, 5) := pw_no (kd := 4) v2 (wordB_narX b4) rfl
        go_enter Tryz.func6, Tryz.ntmps6
        go_wp2_with fail
        refine (hsh.out _ hW).mono ?_
        rintro e w1 ⟨rfl, hb⟩
        have hL1 := hL.go hb
        go_wp2_with fail
        refine (ptext_is id mode [45, 78, 97, 82] _ 0 1 5 (by first | rfl | kernel_rfl) (by decide) hv (hW.below (hL1.go ((Below.refl _ _).alloc (Nat.le_refl _) _)).below)).mono ?_
        rintro e w2 ⟨rfl, hb2⟩
        have hL2 := (hL1.go ((Below.refl _ _).alloc (Nat.le_refl _) _)).go hb2
        go_wp2_with fail
        refine (hof.out _ (hW.below hL2.below)).mono ?_
        rintro e w3 ⟨rfl, hb3⟩
        have hL3 := hL2.go hb3
        go_wp2
        go_ret
        exact ⟨rfl, (hL3.go (((Below.refl _ _).alloc (Nat.le_refl _) _).alloc (by simp) _)).below⟩
end Go.Proofs.YtdlkfnkmdlcekaaGreatDoor
