/- Plain: a sign ahead of a number's text turns what Parse tells, where the form has both signs alike. Conditions: none. -/
import Derived.Test.YtdlkfnkmdlcekaaGreatDoorFo31
import Derived.Test.YtdlkfnkmdlcekaaGreatDoorFo04
import Derived.Test.YtdlkfnkmdlcekaaGreatDoorFo03
namespace Go.Proofs.YtdlkfnkmdlcekaaGreatDoor
open Go.RowKit Go.Cal
theorem word_first {x : UInt8} {t : List UInt8} (h : x = 46 ∨ (48 ≤ x.toNat ∧ x.toNat ≤ 57)) : wordK (x :: t) = 0 ∧ x ≠ 45 := by
  have hx : x ≠ 105 ∧ x ≠ 110 ∧ x ≠ 78 ∧ x ≠ 45 := by
    rcases h with rfl | ⟨h1, h2⟩
    · decide
    · refine ⟨?_, ?_, ?_, ?_⟩ <;> (intro e; subst e; revert h1 h2; decide)
  obtain ⟨h1, h2, h3, h4⟩ := hx
  refine ⟨?_, h4⟩
  unfold wordK wINF wNAN wNAR
  rw [if_neg (fun e => by injection e with e1 _; exact h1 e1), if_neg (fun e => by injection e with e1 _; exact h2 e1), if_neg (fun e => by injection e with e1 _; exact h3 e1)]
theorem large_one {id mode : Int} {neg : Bool} (hk : fK id = 1) : largeV id mode neg = patV id neg (mostV id neg) := by
  unfold largeV; rw [if_pos (.inr (.inl hk))]
theorem round_one_le {id mode : Int} (hk : fK id = 1) (P Q : Nat) : 0 ≤ roundP id mode false P Q ∧ roundP id mode false P Q ≤ fT id := by
  have hb := mostV_bnd id false
  have hm : mostV id false = fT id := by unfold mostV; rw [if_neg (by simp)]
  have hn := nearK_le id false P Q
  have hp : ∀ k : Int, patV id false k = k := fun k => by unfold patV; rw [if_pos rfl]
  unfold roundP
  rw [if_neg (by omega)]
  split
  · rw [large_one hk, hp]; omega
  · rw [hp]; omega
/-- What Parse tells of a number's text without a sign, and with one. -/
theorem par_signs {id mode : Int} {x : UInt8} {t : List UInt8} (h1 : 1 ≤ id) (h2 : id < 15) (hk : fK id = 1 ∨ fK id = 2) (h : x = 46 ∨ (48 ≤ x.toNat ∧ x.toNat ≤ 57)) :
    (∃ n m E : Int, E ≠ 0 ∧ parV id mode (x :: t) = (0, n, E) ∧ parV id mode (45 :: x :: t) = (0, m, E) ∧ 0 ≤ n ∧ n ≤ (t.length : Int) + 1 ∧ (m = n + 1 ∨ (E = 1 ∧ m = 0))) ∨
    (∃ p q : Int, parV id mode (x :: t) = (p, 0, 0) ∧ parV id mode (45 :: x :: t) = (q, 0, 0) ∧ 0 ≤ p ∧ p < 18446744073709551616 ∧
      ((fN id ≠ 0 ∧ p = fN id ∧ q = fN id) ∨ ((fN id = 0 ∨ p ≠ fN id) ∧ fK id = 2 ∧ p < 2 ^ ((fW id).toNat - 1) ∧ q = p + 2 ^ ((fW id).toNat - 1)) ∨ (p ≠ fN id ∧ fK id = 1 ∧ q = (-p) % 2 ^ (fW id).toNat))) := by
  obtain ⟨hw, h45⟩ := word_first (t := t) h
  have hne : ∀ u, x :: t = 45 :: u → False := fun u e => by injection e with e1 _; exact h45 e1
  obtain ⟨s1, s2, s3⟩ := signs_text 1125899906842624 hne
  by_cases hE : roundE id mode ≠ 0
  · left
    have hE1 : roundE id mode = 1 := by
      unfold roundE at hE ⊢
      rw [if_neg (by omega)] at hE ⊢
      by_cases hm : mode ≠ 1 ∧ mode ≠ 2
      · rw [if_pos hm]
      · rw [if_neg hm] at hE; exact absurd rfl hE
    refine ⟨0, 0, 1, by decide, ?_, ?_, by omega, by omega, .inr ⟨rfl, rfl⟩⟩ <;> (unfold parV; rw [if_pos hE, hE1])
  · cases ht : (textS (x :: t)).1 with
    | false =>
      left
      have hle := textS_le _ ht
      rw [List.length_cons] at hle
      refine ⟨((textS (x :: t)).2 : Nat), ((textS (x :: t)).2 : Nat) + 1, 2, by decide, ?_, ?_, by omega, by omega, .inl rfl⟩
      · unfold parV; rw [if_neg hE, if_pos ht]
      · unfold parV; rw [if_neg hE, if_pos (s1.trans ht), s2]; push_cast; rfl
    | true =>
      right
      have hb := body_item 1125899906842624 false (x :: t)
      rw [← textV_plain 1125899906842624 hne] at hb
      have hbk : (textV 1125899906842624 (x :: t)).kind = 1 := by
        rw [textV_plain 1125899906842624 hne]
        unfold bodyV
        rw [if_neg (by rw [hw]; decide)]
        unfold itemV
        simp only
        repeat' split
        all_goals rfl
      obtain ⟨hneg, -⟩ := hb
      obtain ⟨P, hP⟩ : ∃ P, exP (numN (textV 1125899906842624 (x :: t))) (numX (textV 1125899906842624 (x :: t))) (numX (textV 1125899906842624 (x :: t))) = P := ⟨_, rfl⟩
      obtain ⟨Q, hQ⟩ : ∃ Q, exQ (numX (textV 1125899906842624 (x :: t))) (numX (textV 1125899906842624 (x :: t))) = Q := ⟨_, rfl⟩
      have e1 : parV id mode (x :: t) = (roundP id mode false P Q, 0, 0) := by
        unfold parV
        rw [if_neg hE, if_neg (by rw [ht]; decide)]
        unfold parI
        rw [if_pos hbk, hneg, hP, hQ]
      have e2 : parV id mode (45 :: x :: t) = (roundP id mode true P Q, 0, 0) := by
        unfold parV
        rw [if_neg hE, if_neg (by rw [s1, ht]; decide), s3]
        unfold parI
        rw [if_pos hbk]
        show (roundP id mode true (exP (numN (textV 1125899906842624 (x :: t))) (numX (textV 1125899906842624 (x :: t))) (numX (textV 1125899906842624 (x :: t)))) (exQ (numX (textV 1125899906842624 (x :: t))) (numX (textV 1125899906842624 (x :: t)))), 0, 0) = _
        rw [hP, hQ]
      have hf := ft_bounds id
      rcases hk with hk | hk
      · have hr := round_one_le (mode := mode) hk P Q
        have hfl := round_flip_one (mode := mode) hk P Q
        have hfT : fT id < fN id := by
          clear hr hfl e1 e2 hf hP hQ hE hbk hneg s1 s2 s3 ht
          rcases id_cases h1 h2 with rfl | rfl | rfl | rfl | rfl | rfl | rfl | rfl | rfl | rfl | rfl | rfl | rfl | rfl <;> first | decide | (exact absurd hk (by decide))
        exact ⟨_, _, e1, e2, hr.1, by omega, .inr (.inr ⟨by omega, hk, hfl⟩)⟩
      · have h64 : (2 : Int) ^ ((fW id).toNat - 1) ≤ 9223372036854775808 := pow_le63 _ (by omega)
        rcases round_flip_two (mode := mode) h1 h2 hk P Q with ⟨a, b, c⟩ | ⟨a, b, c, d⟩
        · exact ⟨_, _, e1, e2, by omega, by omega, .inl ⟨a, b, c⟩⟩
        · refine ⟨_, _, e1, e2, b, by omega, .inr (.inl ⟨?_, hk, c, a⟩)⟩
          by_cases hn : fN id = 0
          · exact .inl hn
          · exact .inr (d hn)
theorem pat_xor (key : Int) (n : Nat) (hn : n ≤ 63) (h0 : 0 ≤ key) (h1 : key < 2 ^ n) : bits BinOp.xor IntKind.u64 key (2 ^ n) = key + 2 ^ n := by
  obtain ⟨k, rfl⟩ := Int.eq_ofNat_of_zero_le h0
  have e1 : (2 : Int) ^ n = ((2 ^ n : Nat) : Int) := by push_cast; rfl
  rw [e1] at h1 ⊢
  have h3 : 2 ^ n ≤ 2 ^ 63 := Nat.pow_le_pow_right (by decide) hn
  have h2 : k < 2 ^ n := by exact_mod_cast h1
  have hx : k ^^^ 2 ^ n = k ||| 2 ^ n := by
    apply Nat.eq_of_testBit_eq
    intro i
    rw [Nat.testBit_xor, Nat.testBit_or, Nat.testBit_two_pow]
    by_cases hi : n = i
    · subst hi
      rw [Nat.testBit_lt_two_pow h2]; simp
    · simp [hi]
  rw [bits_xor_u64_nat _ _ (by omega) (by omega), hx, Nat.or_comm]
  have := Nat.two_pow_add_eq_or_of_lt h2 1
  rw [Nat.mul_one] at this
  rw [← this]
  push_cast
  omega
end Go.Proofs.YtdlkfnkmdlcekaaGreatDoor
