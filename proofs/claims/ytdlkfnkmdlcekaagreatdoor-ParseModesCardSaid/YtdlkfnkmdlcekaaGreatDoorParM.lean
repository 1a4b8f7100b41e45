/- Plain: modes of Parse differ just where a number is too large. Conditions: none. -/
import Derived.Test.YtdlkfnkmdlcekaaGreatDoorFo31
namespace Go.Proofs.YtdlkfnkmdlcekaaGreatDoor
open Go.RowKit Go.Cal
theorem par_modes (id : Int) (l : List UInt8) : (parV id 1 l).2.2 = (parV id 2 l).2.2 ∧ (parV id 1 l).2.1 = (parV id 2 l).2.1 ∧
    ((parV id 1 l).2.2 ≠ 0 ∨ (parV id 1 l).1 = (parV id 2 l).1 ∨
      (1 ≤ id ∧ id < 15 ∧ ∃ neg, mostE id neg = 0 ∧ (parV id 1 l).1 = patV id neg (mostV id neg) ∧ ((classV id (parV id 2 l).1 = 3 ∧ partN id (parV id 2 l).1 = neg) ∨ classV id (parV id 2 l).1 = 4))) := by
  have hE : roundE id 1 = roundE id 2 := by unfold roundE; simp
  unfold parV
  by_cases h : roundE id 1 ≠ 0
  · have h2 : roundE id 2 ≠ 0 := by rw [← hE]; exact h
    rw [if_pos h, if_pos h2, ← hE]
    exact ⟨rfl, rfl, .inl h⟩
  · have h2 : ¬ roundE id 2 ≠ 0 := by rw [← hE]; exact h
    rw [if_neg h, if_neg h2]
    have h0 : roundE id 1 = 0 := Classical.byContradiction h
    have hid : 1 ≤ id ∧ id < 15 := by
      unfold roundE at h0
      split at h0 <;> omega
    by_cases ht : (textS l).1 = false
    · rw [if_pos ht, if_pos ht]
      exact ⟨rfl, rfl, .inl (show (2 : Int) ≠ 0 by decide)⟩
    · rw [if_neg ht, if_neg ht]
      generalize textV 1125899906842624 l = it
      unfold parI
      by_cases hk : it.kind = 1
      · rw [if_pos hk, if_pos hk]
        refine ⟨rfl, rfl, .inr ?_⟩
        generalize exP (numN it) (numX it) (numX it) = P
        generalize exQ (numX it) (numX it) = Q
        by_cases hd : roundP id 1 it.neg P Q = roundP id 2 it.neg P Q
        · exact .inl hd
        · obtain ⟨a, b, c⟩ := round_modes hid.1 hid.2 hd
          exact .inr ⟨hid.1, hid.2, it.neg, a, b, c⟩
      · rw [if_neg hk, if_neg hk]
        split
        · exact ⟨rfl, rfl, .inr (.inl rfl)⟩
        · exact ⟨rfl, rfl, .inl (show (5 : Int) ≠ 0 by decide)⟩
/-- The greatest magnitude's pattern is that of a number. -/
theorem most_pat {id : Int} {neg : Bool} (he : mostE id neg = 0) : classV id (patV id neg (mostV id neg)) = 2 ∧ partN id (patV id neg (mostV id neg)) = neg ∧ partK id (patV id neg (mostV id neg)) = mostV id neg ∧ 0 ≤ patV id neg (mostV id neg) ∧ patV id neg (mostV id neg) < 2 ^ (fW id).toNat := by
  have hm := mostV_bnd id neg
  have h1 := pat_class he (by omega) (Int.le_refl _)
  rw [if_neg (by omega)] at h1
  obtain ⟨b1, b2⟩ := pat_bnd he (by omega) (Int.le_refl _)
  exact ⟨h1, pat_neg he (by omega) (Int.le_refl _) (.inl (by omega)), pat_key he (by omega) (Int.le_refl _), b1, b2⟩
end Go.Proofs.YtdlkfnkmdlcekaaGreatDoor
