/- The document's Scan, first part: the state behind a byte. Conditions: none. -/
import Derived.Test.YtncfbleeidjflaaGreatDoorTx03
import Derived.Test.YtncfbleeidjflaaGreatDoorTx14
namespace Go.Proofs.YtncfbleeidjflaaGreatDoor
open Go.RowKit Go.Cal
def NextTells (st : Nat) (c : UInt8) (w : World) : Prop := Calls Tryz.prog 100 #[.int .i64 (st : Nat), .int .u8 ((c.toNat : Nat) : Int)] w fun e w' => e = .returned (.int .i64 ((nxt st c : Nat) : Int)) ∧ w = w'
set_option maxRecDepth 100000 in
set_option maxHeartbeats 1000000 in
theorem next_0 (c : UInt8) (w : World) : NextTells 0 c w := by
  unfold NextTells
  obtain ⟨x, hx⟩ : ∃ x : Int, ((c.toNat : Nat) : Int) = x := ⟨_, rfl⟩
  rw [hx]
  by_cases h45 : c = 45
  · subst h45
    obtain rfl : x = 45 := by rw [← hx]; rfl
    have hv : nxt 0 45 = 1 := by decide
    go_enter Tryz.func100, Tryz.ntmps100
    go_wp2
    go_ret
    exact ⟨by first | rfl | (rw [hv]; rfl), rfl⟩
  · have x45 : ¬ x = 45 := fun e => h45 (UInt8.toNat_inj.1 (by show c.toNat = 45; omega))
    have y45 : (x == 45) = false := beq_eq_false_iff_ne.2 x45
    by_cases h105 : c = 105
    · subst h105
      obtain rfl : x = 105 := by rw [← hx]; rfl
      have hv : nxt 0 105 = 10 := by decide
      go_enter Tryz.func100, Tryz.ntmps100
      go_wp2
      go_ret
      exact ⟨by first | rfl | (rw [hv]; rfl), rfl⟩
    · have x105 : ¬ x = 105 := fun e => h105 (UInt8.toNat_inj.1 (by show c.toNat = 105; omega))
      have y105 : (x == 105) = false := beq_eq_false_iff_ne.2 x105
      by_cases h110 : c = 110
      · subst h110
        obtain rfl : x = 110 := by rw [← hx]; rfl
        have hv : nxt 0 110 = 20 := by decide
        go_enter Tryz.func100, Tryz.ntmps100
        go_wp2
        go_ret
        exact ⟨by first | rfl | (rw [hv]; rfl), rfl⟩
      · have x110 : ¬ x = 110 := fun e => h110 (UInt8.toNat_inj.1 (by show c.toNat = 110; omega))
        have y110 : (x == 110) = false := beq_eq_false_iff_ne.2 x110
        by_cases h78 : c = 78
        · subst h78
          obtain rfl : x = 78 := by rw [← hx]; rfl
          have hv : nxt 0 78 = 30 := by decide
          go_enter Tryz.func100, Tryz.ntmps100
          go_wp2
          go_ret
          exact ⟨by first | rfl | (rw [hv]; rfl), rfl⟩
        · have x78 : ¬ x = 78 := fun e => h78 (UInt8.toNat_inj.1 (by show c.toNat = 78; omega))
          have y78 : (x == 78) = false := beq_eq_false_iff_ne.2 x78
          by_cases h46 : c = 46
          · subst h46
            obtain rfl : x = 46 := by rw [← hx]; rfl
            have hv : nxt 0 46 = 4 := by decide
            go_enter Tryz.func100, Tryz.ntmps100
            go_wp2
            go_ret
            exact ⟨by first | rfl | (rw [hv]; rfl), rfl⟩
          · have x46 : ¬ x = 46 := fun e => h46 (UInt8.toNat_inj.1 (by show c.toNat = 46; omega))
            have y46 : (x == 46) = false := beq_eq_false_iff_ne.2 x46
            by_cases hd : isDig c = true
            · have hv : nxt 0 c = 2 := by simp [nxt, hd, h45, h105, h110, h78, h46]
              have hb : 48 ≤ x ∧ x ≤ 57 := by unfold isDig at hd; simp at hd; omega
              obtain ⟨b1, b2⟩ := hb
              clear hd
              go_enter Tryz.func100, Tryz.ntmps100
              go_wp2
              go_ret
              exact ⟨by first | rfl | (rw [hv]; rfl), rfl⟩
            · have hv : nxt 0 c = 99 := by simp [nxt, hd, h45, h105, h110, h78, h46]
              have hb : x < 48 ∨ (¬ x < 48 ∧ 57 < x) := by unfold isDig at hd; simp at hd; omega
              clear hd
              rcases hb with b1 | ⟨b1, b2⟩
              · go_enter Tryz.func100, Tryz.ntmps100
                go_wp2
                go_ret
                exact ⟨by first | rfl | (rw [hv]; rfl), rfl⟩
              · go_enter Tryz.func100, Tryz.ntmps100
                go_wp2
                go_ret
                exact ⟨by first | rfl | (rw [hv]; rfl), rfl⟩
set_option maxRecDepth 100000 in
set_option maxHeartbeats 1000000 in
theorem next_1 (c : UInt8) (w : World) : NextTells 1 c w := by
  unfold NextTells
  obtain ⟨x, hx⟩ : ∃ x : Int, ((c.toNat : Nat) : Int) = x := ⟨_, rfl⟩
  rw [hx]
  by_cases h45 : c = 45
  · subst h45
    obtain rfl : x = 45 := by rw [← hx]; rfl
    have hv : nxt 1 45 = 99 := by decide
    go_enter Tryz.func100, Tryz.ntmps100
    go_wp2
    go_ret
    exact ⟨by first | rfl | (rw [hv]; rfl), rfl⟩
  · have x45 : ¬ x = 45 := fun e => h45 (UInt8.toNat_inj.1 (by show c.toNat = 45; omega))
    have y45 : (x == 45) = false := beq_eq_false_iff_ne.2 x45
    by_cases h105 : c = 105
    · subst h105
      obtain rfl : x = 105 := by rw [← hx]; rfl
      have hv : nxt 1 105 = 10 := by decide
      go_enter Tryz.func100, Tryz.ntmps100
      go_wp2
      go_ret
      exact ⟨by first | rfl | (rw [hv]; rfl), rfl⟩
    · have x105 : ¬ x = 105 := fun e => h105 (UInt8.toNat_inj.1 (by show c.toNat = 105; omega))
      have y105 : (x == 105) = false := beq_eq_false_iff_ne.2 x105
      by_cases h110 : c = 110
      · subst h110
        obtain rfl : x = 110 := by rw [← hx]; rfl
        have hv : nxt 1 110 = 20 := by decide
        go_enter Tryz.func100, Tryz.ntmps100
        go_wp2
        go_ret
        exact ⟨by first | rfl | (rw [hv]; rfl), rfl⟩
      · have x110 : ¬ x = 110 := fun e => h110 (UInt8.toNat_inj.1 (by show c.toNat = 110; omega))
        have y110 : (x == 110) = false := beq_eq_false_iff_ne.2 x110
        by_cases h78 : c = 78
        · subst h78
          obtain rfl : x = 78 := by rw [← hx]; rfl
          have hv : nxt 1 78 = 30 := by decide
          go_enter Tryz.func100, Tryz.ntmps100
          go_wp2
          go_ret
          exact ⟨by first | rfl | (rw [hv]; rfl), rfl⟩
        · have x78 : ¬ x = 78 := fun e => h78 (UInt8.toNat_inj.1 (by show c.toNat = 78; omega))
          have y78 : (x == 78) = false := beq_eq_false_iff_ne.2 x78
          by_cases h46 : c = 46
          · subst h46
            obtain rfl : x = 46 := by rw [← hx]; rfl
            have hv : nxt 1 46 = 4 := by decide
            go_enter Tryz.func100, Tryz.ntmps100
            go_wp2
            go_ret
            exact ⟨by first | rfl | (rw [hv]; rfl), rfl⟩
          · have x46 : ¬ x = 46 := fun e => h46 (UInt8.toNat_inj.1 (by show c.toNat = 46; omega))
            have y46 : (x == 46) = false := beq_eq_false_iff_ne.2 x46
            by_cases hd : isDig c = true
            · have hv : nxt 1 c = 2 := by simp [nxt, hd, h45, h105, h110, h78, h46]
              have hb : 48 ≤ x ∧ x ≤ 57 := by unfold isDig at hd; simp at hd; omega
              obtain ⟨b1, b2⟩ := hb
              clear hd
              go_enter Tryz.func100, Tryz.ntmps100
              go_wp2
              go_ret
              exact ⟨by first | rfl | (rw [hv]; rfl), rfl⟩
            · have hv : nxt 1 c = 99 := by simp [nxt, hd, h45, h105, h110, h78, h46]
              have hb : x < 48 ∨ (¬ x < 48 ∧ 57 < x) := by unfold isDig at hd; simp at hd; omega
              clear hd
              rcases hb with b1 | ⟨b1, b2⟩
              · go_enter Tryz.func100, Tryz.ntmps100
                go_wp2
                go_ret
                exact ⟨by first | rfl | (rw [hv]; rfl), rfl⟩
              · go_enter Tryz.func100, Tryz.ntmps100
                go_wp2
                go_ret
                exact ⟨by first | rfl | (rw [hv]; rfl), rfl⟩
set_option maxRecDepth 100000 in
set_option maxHeartbeats 1000000 in
theorem next_2 (c : UInt8) (w : World) : NextTells 2 c w := by
  unfold NextTells
  obtain ⟨x, hx⟩ : ∃ x : Int, ((c.toNat : Nat) : Int) = x := ⟨_, rfl⟩
  rw [hx]
  by_cases h46 : c = 46
  · subst h46
    obtain rfl : x = 46 := by rw [← hx]; rfl
    have hv : nxt 2 46 = 3 := by decide
    go_enter Tryz.func100, Tryz.ntmps100
    go_wp2
    go_ret
    exact ⟨by first | rfl | (rw [hv]; rfl), rfl⟩
  · have x46 : ¬ x = 46 := fun e => h46 (UInt8.toNat_inj.1 (by show c.toNat = 46; omega))
    have y46 : (x == 46) = false := beq_eq_false_iff_ne.2 x46
    by_cases h101 : c = 101
    · subst h101
      obtain rfl : x = 101 := by rw [← hx]; rfl
      have hv : nxt 2 101 = 6 := by decide
      go_enter Tryz.func100, Tryz.ntmps100
      go_wp2
      go_ret
      exact ⟨by first | rfl | (rw [hv]; rfl), rfl⟩
    · have x101 : ¬ x = 101 := fun e => h101 (UInt8.toNat_inj.1 (by show c.toNat = 101; omega))
      have y101 : (x == 101) = false := beq_eq_false_iff_ne.2 x101
      by_cases h69 : c = 69
      · subst h69
        obtain rfl : x = 69 := by rw [← hx]; rfl
        have hv : nxt 2 69 = 6 := by decide
        go_enter Tryz.func100, Tryz.ntmps100
        go_wp2
        go_ret
        exact ⟨by first | rfl | (rw [hv]; rfl), rfl⟩
      · have x69 : ¬ x = 69 := fun e => h69 (UInt8.toNat_inj.1 (by show c.toNat = 69; omega))
        have y69 : (x == 69) = false := beq_eq_false_iff_ne.2 x69
        by_cases hd : isDig c = true
        · have hv : nxt 2 c = 2 := by simp [nxt, hd, h46]
          have hb : 48 ≤ x ∧ x ≤ 57 := by unfold isDig at hd; simp at hd; omega
          obtain ⟨b1, b2⟩ := hb
          clear hd
          go_enter Tryz.func100, Tryz.ntmps100
          go_wp2
          go_ret
          exact ⟨by first | rfl | (rw [hv]; rfl), rfl⟩
        · have hv : nxt 2 c = 99 := by simp [nxt, hd, h46, h101, h69]
          have hb : x < 48 ∨ (¬ x < 48 ∧ 57 < x) := by unfold isDig at hd; simp at hd; omega
          clear hd
          rcases hb with b1 | ⟨b1, b2⟩
          · go_enter Tryz.func100, Tryz.ntmps100
            go_wp2
            go_ret
            exact ⟨by first | rfl | (rw [hv]; rfl), rfl⟩
          · go_enter Tryz.func100, Tryz.ntmps100
            go_wp2
            go_ret
            exact ⟨by first | rfl | (rw [hv]; rfl), rfl⟩
set_option maxRecDepth 100000 in
set_option maxHeartbeats 1000000 in
theorem next_3 (c : UInt8) (w : World) : NextTells 3 c w := by
  unfold NextTells
  obtain ⟨x, hx⟩ : ∃ x : Int, ((c.toNat : Nat) : Int) = x := ⟨_, rfl⟩
  rw [hx]
  by_cases h101 : c = 101
  · subst h101
    obtain rfl : x = 101 := by rw [← hx]; rfl
    have hv : nxt 3 101 = 6 := by decide
    go_enter Tryz.func100, Tryz.ntmps100
    go_wp2
    go_ret
    exact ⟨by first | rfl | (rw [hv]; rfl), rfl⟩
  · have x101 : ¬ x = 101 := fun e => h101 (UInt8.toNat_inj.1 (by show c.toNat = 101; omega))
    have y101 : (x == 101) = false := beq_eq_false_iff_ne.2 x101
    by_cases h69 : c = 69
    · subst h69
      obtain rfl : x = 69 := by rw [← hx]; rfl
      have hv : nxt 3 69 = 6 := by decide
      go_enter Tryz.func100, Tryz.ntmps100
      go_wp2
      go_ret
      exact ⟨by first | rfl | (rw [hv]; rfl), rfl⟩
    · have x69 : ¬ x = 69 := fun e => h69 (UInt8.toNat_inj.1 (by show c.toNat = 69; omega))
      have y69 : (x == 69) = false := beq_eq_false_iff_ne.2 x69
      by_cases hd : isDig c = true
      · have hv : nxt 3 c = 5 := by simp [nxt, hd]
        have hb : 48 ≤ x ∧ x ≤ 57 := by unfold isDig at hd; simp at hd; omega
        obtain ⟨b1, b2⟩ := hb
        clear hd
        go_enter Tryz.func100, Tryz.ntmps100
        go_wp2
        go_ret
        exact ⟨by first | rfl | (rw [hv]; rfl), rfl⟩
      · have hv : nxt 3 c = 99 := by simp [nxt, hd, h101, h69]
        have hb : x < 48 ∨ (¬ x < 48 ∧ 57 < x) := by unfold isDig at hd; simp at hd; omega
        clear hd
        rcases hb with b1 | ⟨b1, b2⟩
        · go_enter Tryz.func100, Tryz.ntmps100
          go_wp2
          go_ret
          exact ⟨by first | rfl | (rw [hv]; rfl), rfl⟩
        · go_enter Tryz.func100, Tryz.ntmps100
          go_wp2
          go_ret
          exact ⟨by first | rfl | (rw [hv]; rfl), rfl⟩
set_option maxRecDepth 100000 in
set_option maxHeartbeats 1000000 in
theorem next_4 (c : UInt8) (w : World) : NextTells 4 c w := by
  unfold NextTells
  obtain ⟨x, hx⟩ : ∃ x : Int, ((c.toNat : Nat) : Int) = x := ⟨_, rfl⟩
  rw [hx]
  by_cases hd : isDig c = true
  · have hv : nxt 4 c = 5 := by simp [nxt, hd]
    have hb : 48 ≤ x ∧ x ≤ 57 := by unfold isDig at hd; simp at hd; omega
    obtain ⟨b1, b2⟩ := hb
    clear hd
    go_enter Tryz.func100, Tryz.ntmps100
    go_wp2
    go_ret
    exact ⟨by first | rfl | (rw [hv]; rfl), rfl⟩
  · have hv : nxt 4 c = 99 := by simp [nxt, hd]
    have hb : x < 48 ∨ (¬ x < 48 ∧ 57 < x) := by unfold isDig at hd; simp at hd; omega
    clear hd
    rcases hb with b1 | ⟨b1, b2⟩
    · go_enter Tryz.func100, Tryz.ntmps100
      go_wp2
      go_ret
      exact ⟨by first | rfl | (rw [hv]; rfl), rfl⟩
    · go_enter Tryz.func100, Tryz.ntmps100
      go_wp2
      go_ret
      exact ⟨by first | rfl | (rw [hv]; rfl), rfl⟩
set_option maxRecDepth 100000 in
set_option maxHeartbeats 1000000 in
theorem next_5 (c : UInt8) (w : World) : NextTells 5 c w := by
  unfold NextTells
  obtain ⟨x, hx⟩ : ∃ x : Int, ((c.toNat : Nat) : Int) = x := ⟨_, rfl⟩
  rw [hx]
  by_cases h101 : c = 101
  · subst h101
    obtain rfl : x = 101 := by rw [← hx]; rfl
    have hv : nxt 5 101 = 6 := by decide
    go_enter Tryz.func100, Tryz.ntmps100
    go_wp2
    go_ret
    exact ⟨by first | rfl | (rw [hv]; rfl), rfl⟩
  · have x101 : ¬ x = 101 := fun e => h101 (UInt8.toNat_inj.1 (by show c.toNat = 101; omega))
    have y101 : (x == 101) = false := beq_eq_false_iff_ne.2 x101
    by_cases h69 : c = 69
    · subst h69
      obtain rfl : x = 69 := by rw [← hx]; rfl
      have hv : nxt 5 69 = 6 := by decide
      go_enter Tryz.func100, Tryz.ntmps100
      go_wp2
      go_ret
      exact ⟨by first | rfl | (rw [hv]; rfl), rfl⟩
    · have x69 : ¬ x = 69 := fun e => h69 (UInt8.toNat_inj.1 (by show c.toNat = 69; omega))
      have y69 : (x == 69) = false := beq_eq_false_iff_ne.2 x69
      by_cases hd : isDig c = true
      · have hv : nxt 5 c = 5 := by simp [nxt, hd]
        have hb : 48 ≤ x ∧ x ≤ 57 := by unfold isDig at hd; simp at hd; omega
        obtain ⟨b1, b2⟩ := hb
        clear hd
        go_enter Tryz.func100, Tryz.ntmps100
        go_wp2
        go_ret
        exact ⟨by first | rfl | (rw [hv]; rfl), rfl⟩
      · have hv : nxt 5 c = 99 := by simp [nxt, hd, h101, h69]
        have hb : x < 48 ∨ (¬ x < 48 ∧ 57 < x) := by unfold isDig at hd; simp at hd; omega
        clear hd
        rcases hb with b1 | ⟨b1, b2⟩
        · go_enter Tryz.func100, Tryz.ntmps100
          go_wp2
          go_ret
          exact ⟨by first | rfl | (rw [hv]; rfl), rfl⟩
        · go_enter Tryz.func100, Tryz.ntmps100
          go_wp2
          go_ret
          exact ⟨by first | rfl | (rw [hv]; rfl), rfl⟩
set_option maxRecDepth 100000 in
set_option maxHeartbeats 1000000 in
theorem next_6 (c : UInt8) (w : World) : NextTells 6 c w := by
  unfold NextTells
  obtain ⟨x, hx⟩ : ∃ x : Int, ((c.toNat : Nat) : Int) = x := ⟨_, rfl⟩
  rw [hx]
  by_cases h43 : c = 43
  · subst h43
    obtain rfl : x = 43 := by rw [← hx]; rfl
    have hv : nxt 6 43 = 7 := by decide
    go_enter Tryz.func100, Tryz.ntmps100
    go_wp2
    go_ret
    exact ⟨by first | rfl | (rw [hv]; rfl), rfl⟩
  · have x43 : ¬ x = 43 := fun e => h43 (UInt8.toNat_inj.1 (by show c.toNat = 43; omega))
    have y43 : (x == 43) = false := beq_eq_false_iff_ne.2 x43
    by_cases h45 : c = 45
    · subst h45
      obtain rfl : x = 45 := by rw [← hx]; rfl
      have hv : nxt 6 45 = 7 := by decide
      go_enter Tryz.func100, Tryz.ntmps100
      go_wp2
      go_ret
      exact ⟨by first | rfl | (rw [hv]; rfl), rfl⟩
    · have x45 : ¬ x = 45 := fun e => h45 (UInt8.toNat_inj.1 (by show c.toNat = 45; omega))
      have y45 : (x == 45) = false := beq_eq_false_iff_ne.2 x45
      by_cases hd : isDig c = true
      · have hv : nxt 6 c = 8 := by simp [nxt, hd]
        have hb : 48 ≤ x ∧ x ≤ 57 := by unfold isDig at hd; simp at hd; omega
        obtain ⟨b1, b2⟩ := hb
        clear hd
        go_enter Tryz.func100, Tryz.ntmps100
        go_wp2
        go_ret
        exact ⟨by first | rfl | (rw [hv]; rfl), rfl⟩
      · have hv : nxt 6 c = 99 := by simp [nxt, hd, h43, h45]
        have hb : x < 48 ∨ (¬ x < 48 ∧ 57 < x) := by unfold isDig at hd; simp at hd; omega
        clear hd
        rcases hb with b1 | ⟨b1, b2⟩
        · go_enter Tryz.func100, Tryz.ntmps100
          go_wp2
          go_ret
          exact ⟨by first | rfl | (rw [hv]; rfl), rfl⟩
        · go_enter Tryz.func100, Tryz.ntmps100
          go_wp2
          go_ret
          exact ⟨by first | rfl | (rw [hv]; rfl), rfl⟩
set_option maxRecDepth 100000 in
set_option maxHeartbeats 1000000 in
theorem next_7 (c : UInt8) (w : World) : NextTells 7 c w := by
  unfold NextTells
  obtain ⟨x, hx⟩ : ∃ x : Int, ((c.toNat : Nat) : Int) = x := ⟨_, rfl⟩
  rw [hx]
  by_cases hd : isDig c = true
  · have hv : nxt 7 c = 8 := by simp [nxt, hd]
    have hb : 48 ≤ x ∧ x ≤ 57 := by unfold isDig at hd; simp at hd; omega
    obtain ⟨b1, b2⟩ := hb
    clear hd
    go_enter Tryz.func100, Tryz.ntmps100
    go_wp2
    go_ret
    exact ⟨by first | rfl | (rw [hv]; rfl), rfl⟩
  · have hv : nxt 7 c = 99 := by simp [nxt, hd]
    have hb : x < 48 ∨ (¬ x < 48 ∧ 57 < x) := by unfold isDig at hd; simp at hd; omega
    clear hd
    rcases hb with b1 | ⟨b1, b2⟩
    · go_enter Tryz.func100, Tryz.ntmps100
      go_wp2
      go_ret
      exact ⟨by first | rfl | (rw [hv]; rfl), rfl⟩
    · go_enter Tryz.func100, Tryz.ntmps100
      go_wp2
      go_ret
      exact ⟨by first | rfl | (rw [hv]; rfl), rfl⟩
set_option maxRecDepth 100000 in
set_option maxHeartbeats 1000000 in
theorem next_8 (c : UInt8) (w : World) : NextTells 8 c w := by
  unfold NextTells
  obtain ⟨x, hx⟩ : ∃ x : Int, ((c.toNat : Nat) : Int) = x := ⟨_, rfl⟩
  rw [hx]
  by_cases hd : isDig c = true
  · have hv : nxt 8 c = 8 := by simp [nxt, hd]
    have hb : 48 ≤ x ∧ x ≤ 57 := by unfold isDig at hd; simp at hd; omega
    obtain ⟨b1, b2⟩ := hb
    clear hd
    go_enter Tryz.func100, Tryz.ntmps100
    go_wp2
    go_ret
    exact ⟨by first | rfl | (rw [hv]; rfl), rfl⟩
  · have hv : nxt 8 c = 99 := by simp [nxt, hd]
    have hb : x < 48 ∨ (¬ x < 48 ∧ 57 < x) := by unfold isDig at hd; simp at hd; omega
    clear hd
    rcases hb with b1 | ⟨b1, b2⟩
    · go_enter Tryz.func100, Tryz.ntmps100
      go_wp2
      go_ret
      exact ⟨by first | rfl | (rw [hv]; rfl), rfl⟩
    · go_enter Tryz.func100, Tryz.ntmps100
      go_wp2
      go_ret
      exact ⟨by first | rfl | (rw [hv]; rfl), rfl⟩
set_option maxRecDepth 100000 in
set_option maxHeartbeats 1000000 in
theorem next_10 (c : UInt8) (w : World) : NextTells 10 c w := by
  unfold NextTells
  obtain ⟨x, hx⟩ : ∃ x : Int, ((c.toNat : Nat) : Int) = x := ⟨_, rfl⟩
  rw [hx]
  by_cases h110 : c = 110
  · subst h110
    obtain rfl : x = 110 := by rw [← hx]; rfl
    have hv : nxt 10 110 = 11 := by decide
    go_enter Tryz.func100, Tryz.ntmps100
    go_wp2
    go_ret
    exact ⟨by first | rfl | (rw [hv]; rfl), rfl⟩
  · have x110 : ¬ x = 110 := fun e => h110 (UInt8.toNat_inj.1 (by show c.toNat = 110; omega))
    have y110 : (x == 110) = false := beq_eq_false_iff_ne.2 x110
    by_cases hd : isDig c = true
    · have hv : nxt 10 c = 99 := by simp [nxt, hd, h110]
      have hb : 48 ≤ x ∧ x ≤ 57 := by unfold isDig at hd; simp at hd; omega
      obtain ⟨b1, b2⟩ := hb
      clear hd
      go_enter Tryz.func100, Tryz.ntmps100
      go_wp2
      go_ret
      exact ⟨by first | rfl | (rw [hv]; rfl), rfl⟩
    · have hv : nxt 10 c = 99 := by simp [nxt, hd, h110]
      have hb : x < 48 ∨ (¬ x < 48 ∧ 57 < x) := by unfold isDig at hd; simp at hd; omega
      clear hd
      rcases hb with b1 | ⟨b1, b2⟩
      · go_enter Tryz.func100, Tryz.ntmps100
        go_wp2
        go_ret
        exact ⟨by first | rfl | (rw [hv]; rfl), rfl⟩
      · go_enter Tryz.func100, Tryz.ntmps100
        go_wp2
        go_ret
        exact ⟨by first | rfl | (rw [hv]; rfl), rfl⟩
set_option maxRecDepth 100000 in
set_option maxHeartbeats 1000000 in
theorem next_11 (c : UInt8) (w : World) : NextTells 11 c w := by
  unfold NextTells
  obtain ⟨x, hx⟩ : ∃ x : Int, ((c.toNat : Nat) : Int) = x := ⟨_, rfl⟩
  rw [hx]
  by_cases h102 : c = 102
  · subst h102
    obtain rfl : x = 102 := by rw [← hx]; rfl
    have hv : nxt 11 102 = 12 := by decide
    go_enter Tryz.func100, Tryz.ntmps100
    go_wp2
    go_ret
    exact ⟨by first | rfl | (rw [hv]; rfl), rfl⟩
  · have x102 : ¬ x = 102 := fun e => h102 (UInt8.toNat_inj.1 (by show c.toNat = 102; omega))
    have y102 : (x == 102) = false := beq_eq_false_iff_ne.2 x102
    by_cases hd : isDig c = true
    · have hv : nxt 11 c = 99 := by simp [nxt, hd, h102]
      have hb : 48 ≤ x ∧ x ≤ 57 := by unfold isDig at hd; simp at hd; omega
      obtain ⟨b1, b2⟩ := hb
      clear hd
      go_enter Tryz.func100, Tryz.ntmps100
      go_wp2
      go_ret
      exact ⟨by first | rfl | (rw [hv]; rfl), rfl⟩
    · have hv : nxt 11 c = 99 := by simp [nxt, hd, h102]
      have hb : x < 48 ∨ (¬ x < 48 ∧ 57 < x) := by unfold isDig at hd; simp at hd; omega
      clear hd
      rcases hb with b1 | ⟨b1, b2⟩
      · go_enter Tryz.func100, Tryz.ntmps100
        go_wp2
        go_ret
        exact ⟨by first | rfl | (rw [hv]; rfl), rfl⟩
      · go_enter Tryz.func100, Tryz.ntmps100
        go_wp2
        go_ret
        exact ⟨by first | rfl | (rw [hv]; rfl), rfl⟩
set_option maxRecDepth 100000 in
set_option maxHeartbeats 1000000 in
theorem next_12 (c : UInt8) (w : World) : NextTells 12 c w := by
  unfold NextTells
  obtain ⟨x, hx⟩ : ∃ x : Int, ((c.toNat : Nat) : Int) = x := ⟨_, rfl⟩
  rw [hx]
  by_cases hd : isDig c = true
  · have hv : nxt 12 c = 99 := by simp [nxt, hd]
    have hb : 48 ≤ x ∧ x ≤ 57 := by unfold isDig at hd; simp at hd; omega
    obtain ⟨b1, b2⟩ := hb
    clear hd
    go_enter Tryz.func100, Tryz.ntmps100
    go_wp2
    go_ret
    exact ⟨by first | rfl | (rw [hv]; rfl), rfl⟩
  · have hv : nxt 12 c = 99 := by simp [nxt, hd]
    have hb : x < 48 ∨ (¬ x < 48 ∧ 57 < x) := by unfold isDig at hd; simp at hd; omega
    clear hd
    rcases hb with b1 | ⟨b1, b2⟩
    · go_enter Tryz.func100, Tryz.ntmps100
      go_wp2
      go_ret
      exact ⟨by first | rfl | (rw [hv]; rfl), rfl⟩
    · go_enter Tryz.func100, Tryz.ntmps100
      go_wp2
      go_ret
      exact ⟨by first | rfl | (rw [hv]; rfl), rfl⟩
set_option maxRecDepth 100000 in
set_option maxHeartbeats 1000000 in
theorem next_20 (c : UInt8) (w : World) : NextTells 20 c w := by
  unfold NextTells
  obtain ⟨x, hx⟩ : ∃ x : Int, ((c.toNat : Nat) : Int) = x := ⟨_, rfl⟩
  rw [hx]
  by_cases h97 : c = 97
  · subst h97
    obtain rfl : x = 97 := by rw [← hx]; rfl
    have hv : nxt 20 97 = 21 := by decide
    go_enter Tryz.func100, Tryz.ntmps100
    go_wp2
    go_ret
    exact ⟨by first | rfl | (rw [hv]; rfl), rfl⟩
  · have x97 : ¬ x = 97 := fun e => h97 (UInt8.toNat_inj.1 (by show c.toNat = 97; omega))
    have y97 : (x == 97) = false := beq_eq_false_iff_ne.2 x97
    by_cases hd : isDig c = true
    · have hv : nxt 20 c = 99 := by simp [nxt, hd, h97]
      have hb : 48 ≤ x ∧ x ≤ 57 := by unfold isDig at hd; simp at hd; omega
      obtain ⟨b1, b2⟩ := hb
      clear hd
      go_enter Tryz.func100, Tryz.ntmps100
      go_wp2
      go_ret
      exact ⟨by first | rfl | (rw [hv]; rfl), rfl⟩
    · have hv : nxt 20 c = 99 := by simp [nxt, hd, h97]
      have hb : x < 48 ∨ (¬ x < 48 ∧ 57 < x) := by unfold isDig at hd; simp at hd; omega
      clear hd
      rcases hb with b1 | ⟨b1, b2⟩
      · go_enter Tryz.func100, Tryz.ntmps100
        go_wp2
        go_ret
        exact ⟨by first | rfl | (rw [hv]; rfl), rfl⟩
      · go_enter Tryz.func100, Tryz.ntmps100
        go_wp2
        go_ret
        exact ⟨by first | rfl | (rw [hv]; rfl), rfl⟩
set_option maxRecDepth 100000 in
set_option maxHeartbeats 1000000 in
theorem next_21 (c : UInt8) (w : World) : NextTells 21 c w := by
  unfold NextTells
  obtain ⟨x, hx⟩ : ∃ x : Int, ((c.toNat : Nat) : Int) = x := ⟨_, rfl⟩
  rw [hx]
  by_cases h110 : c = 110
  · subst h110
    obtain rfl : x = 110 := by rw [← hx]; rfl
    have hv : nxt 21 110 = 22 := by decide
    go_enter Tryz.func100, Tryz.ntmps100
    go_wp2
    go_ret
    exact ⟨by first | rfl | (rw [hv]; rfl), rfl⟩
  · have x110 : ¬ x = 110 := fun e => h110 (UInt8.toNat_inj.1 (by show c.toNat = 110; omega))
    have y110 : (x == 110) = false := beq_eq_false_iff_ne.2 x110
    by_cases hd : isDig c = true
    · have hv : nxt 21 c = 99 := by simp [nxt, hd, h110]
      have hb : 48 ≤ x ∧ x ≤ 57 := by unfold isDig at hd; simp at hd; omega
      obtain ⟨b1, b2⟩ := hb
      clear hd
      go_enter Tryz.func100, Tryz.ntmps100
      go_wp2
      go_ret
      exact ⟨by first | rfl | (rw [hv]; rfl), rfl⟩
    · have hv : nxt 21 c = 99 := by simp [nxt, hd, h110]
      have hb : x < 48 ∨ (¬ x < 48 ∧ 57 < x) := by unfold isDig at hd; simp at hd; omega
      clear hd
      rcases hb with b1 | ⟨b1, b2⟩
      · go_enter Tryz.func100, Tryz.ntmps100
        go_wp2
        go_ret
        exact ⟨by first | rfl | (rw [hv]; rfl), rfl⟩
      · go_enter Tryz.func100, Tryz.ntmps100
        go_wp2
        go_ret
        exact ⟨by first | rfl | (rw [hv]; rfl), rfl⟩
set_option maxRecDepth 100000 in
set_option maxHeartbeats 1000000 in
theorem next_22 (c : UInt8) (w : World) : NextTells 22 c w := by
  unfold NextTells
  obtain ⟨x, hx⟩ : ∃ x : Int, ((c.toNat : Nat) : Int) = x := ⟨_, rfl⟩
  rw [hx]
  by_cases hd : isDig c = true
  · have hv : nxt 22 c = 99 := by simp [nxt, hd]
    have hb : 48 ≤ x ∧ x ≤ 57 := by unfold isDig at hd; simp at hd; omega
    obtain ⟨b1, b2⟩ := hb
    clear hd
    go_enter Tryz.func100, Tryz.ntmps100
    go_wp2
    go_ret
    exact ⟨by first | rfl | (rw [hv]; rfl), rfl⟩
  · have hv : nxt 22 c = 99 := by simp [nxt, hd]
    have hb : x < 48 ∨ (¬ x < 48 ∧ 57 < x) := by unfold isDig at hd; simp at hd; omega
    clear hd
    rcases hb with b1 | ⟨b1, b2⟩
    · go_enter Tryz.func100, Tryz.ntmps100
      go_wp2
      go_ret
      exact ⟨by first | rfl | (rw [hv]; rfl), rfl⟩
    · go_enter Tryz.func100, Tryz.ntmps100
      go_wp2
      go_ret
      exact ⟨by first | rfl | (rw [hv]; rfl), rfl⟩
set_option maxRecDepth 100000 in
set_option maxHeartbeats 1000000 in
theorem next_30 (c : UInt8) (w : World) : NextTells 30 c w := by
  unfold NextTells
  obtain ⟨x, hx⟩ : ∃ x : Int, ((c.toNat : Nat) : Int) = x := ⟨_, rfl⟩
  rw [hx]
  by_cases h97 : c = 97
  · subst h97
    obtain rfl : x = 97 := by rw [← hx]; rfl
    have hv : nxt 30 97 = 31 := by decide
    go_enter Tryz.func100, Tryz.ntmps100
    go_wp2
    go_ret
    exact ⟨by first | rfl | (rw [hv]; rfl), rfl⟩
  · have x97 : ¬ x = 97 := fun e => h97 (UInt8.toNat_inj.1 (by show c.toNat = 97; omega))
    have y97 : (x == 97) = false := beq_eq_false_iff_ne.2 x97
    by_cases hd : isDig c = true
    · have hv : nxt 30 c = 99 := by simp [nxt, hd, h97]
      have hb : 48 ≤ x ∧ x ≤ 57 := by unfold isDig at hd; simp at hd; omega
      obtain ⟨b1, b2⟩ := hb
      clear hd
      go_enter Tryz.func100, Tryz.ntmps100
      go_wp2
      go_ret
      exact ⟨by first | rfl | (rw [hv]; rfl), rfl⟩
    · have hv : nxt 30 c = 99 := by simp [nxt, hd, h97]
      have hb : x < 48 ∨ (¬ x < 48 ∧ 57 < x) := by unfold isDig at hd; simp at hd; omega
      clear hd
      rcases hb with b1 | ⟨b1, b2⟩
      · go_enter Tryz.func100, Tryz.ntmps100
        go_wp2
        go_ret
        exact ⟨by first | rfl | (rw [hv]; rfl), rfl⟩
      · go_enter Tryz.func100, Tryz.ntmps100
        go_wp2
        go_ret
        exact ⟨by first | rfl | (rw [hv]; rfl), rfl⟩
set_option maxRecDepth 100000 in
set_option maxHeartbeats 1000000 in
theorem next_31 (c : UInt8) (w : World) : NextTells 31 c w := by
  unfold NextTells
  obtain ⟨x, hx⟩ : ∃ x : Int, ((c.toNat : Nat) : Int) = x := ⟨_, rfl⟩
  rw [hx]
  by_cases h82 : c = 82
  · subst h82
    obtain rfl : x = 82 := by rw [← hx]; rfl
    have hv : nxt 31 82 = 32 := by decide
    go_enter Tryz.func100, Tryz.ntmps100
    go_wp2
    go_ret
    exact ⟨by first | rfl | (rw [hv]; rfl), rfl⟩
  · have x82 : ¬ x = 82 := fun e => h82 (UInt8.toNat_inj.1 (by show c.toNat = 82; omega))
    have y82 : (x == 82) = false := beq_eq_false_iff_ne.2 x82
    by_cases hd : isDig c = true
    · have hv : nxt 31 c = 99 := by simp [nxt, hd, h82]
      have hb : 48 ≤ x ∧ x ≤ 57 := by unfold isDig at hd; simp at hd; omega
      obtain ⟨b1, b2⟩ := hb
      clear hd
      go_enter Tryz.func100, Tryz.ntmps100
      go_wp2
      go_ret
      exact ⟨by first | rfl | (rw [hv]; rfl), rfl⟩
    · have hv : nxt 31 c = 99 := by simp [nxt, hd, h82]
      have hb : x < 48 ∨ (¬ x < 48 ∧ 57 < x) := by unfold isDig at hd; simp at hd; omega
      clear hd
      rcases hb with b1 | ⟨b1, b2⟩
      · go_enter Tryz.func100, Tryz.ntmps100
        go_wp2
        go_ret
        exact ⟨by first | rfl | (rw [hv]; rfl), rfl⟩
      · go_enter Tryz.func100, Tryz.ntmps100
        go_wp2
        go_ret
        exact ⟨by first | rfl | (rw [hv]; rfl), rfl⟩
set_option maxRecDepth 100000 in
set_option maxHeartbeats 1000000 in
theorem next_32 (c : UInt8) (w : World) : NextTells 32 c w := by
  unfold NextTells
  obtain ⟨x, hx⟩ : ∃ x : Int, ((c.toNat : Nat) : Int) = x := ⟨_, rfl⟩
  rw [hx]
  by_cases hd : isDig c = true
  · have hv : nxt 32 c = 99 := by simp [nxt, hd]
    have hb : 48 ≤ x ∧ x ≤ 57 := by unfold isDig at hd; simp at hd; omega
    obtain ⟨b1, b2⟩ := hb
    clear hd
    go_enter Tryz.func100, Tryz.ntmps100
    go_wp2
    go_ret
    exact ⟨by first | rfl | (rw [hv]; rfl), rfl⟩
  · have hv : nxt 32 c = 99 := by simp [nxt, hd]
    have hb : x < 48 ∨ (¬ x < 48 ∧ 57 < x) := by unfold isDig at hd; simp at hd; omega
    clear hd
    rcases hb with b1 | ⟨b1, b2⟩
    · go_enter Tryz.func100, Tryz.ntmps100
      go_wp2
      go_ret
      exact ⟨by first | rfl | (rw [hv]; rfl), rfl⟩
    · go_enter Tryz.func100, Tryz.ntmps100
      go_wp2
      go_ret
      exact ⟨by first | rfl | (rw [hv]; rfl), rfl⟩
/-- The state behind a byte. -/
theorem next_any (st : Nat) (c : UInt8) (h : st ∈ liveL) (w : World) : NextTells st c w := by
  simp only [liveL, List.mem_cons, List.not_mem_nil, or_false] at h
  rcases h with rfl | rfl | rfl | rfl | rfl | rfl | rfl | rfl | rfl | rfl | rfl | rfl | rfl | rfl | rfl | rfl | rfl | rfl
  · exact next_0 c w
  · exact next_1 c w
  · exact next_2 c w
  · exact next_3 c w
  · exact next_4 c w
  · exact next_5 c w
  · exact next_6 c w
  · exact next_7 c w
  · exact next_8 c w
  · exact next_10 c w
  · exact next_11 c w
  · exact next_12 c w
  · exact next_20 c w
  · exact next_21 c w
  · exact next_22 c w
  · exact next_30 c w
  · exact next_31 c w
  · exact next_32 c w
set_option maxRecDepth 100000 in
set_option maxHeartbeats 1000000 in
/-- Is a text over? -/
theorem whole_any (st : Nat) (h : st ∈ liveL) (w : World) : Calls Tryz.prog 101 #[.int .i64 (st : Nat)] w fun e w' => e = .returned (.bool (over st)) ∧ w = w' := by
  simp only [liveL, List.mem_cons, List.not_mem_nil, or_false] at h
  rcases h with rfl | rfl | rfl | rfl | rfl | rfl | rfl | rfl | rfl | rfl | rfl | rfl | rfl | rfl | rfl | rfl | rfl | rfl
  all_goals
    go_enter Tryz.func101, Tryz.ntmps101
    go_wp2
    go_ret
    exact ⟨rfl, rfl⟩
end Go.Proofs.YtncfbleeidjflaaGreatDoor
