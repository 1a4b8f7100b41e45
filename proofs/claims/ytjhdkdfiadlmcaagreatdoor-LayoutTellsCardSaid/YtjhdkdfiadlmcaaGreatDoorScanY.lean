/- Plain: a sign ahead; words with more behind; the place where no text goes on. Conditions: none. -/
import Derived.Test.YtjhdkdfiadlmcaaGreatDoorScanX
namespace Go.Cal
theorem textS_plain {l : List UInt8} (h : ∀ t, l = 45 :: t → False) : textS l = bodyS l := by
  unfold textS
  split
  · rename_i t; exact (h t rfl).elim
  · rfl
theorem textV_plain {l : List UInt8} (C : Nat) (h : ∀ t, l = 45 :: t → False) : textV C l = bodyV C false l := by
  unfold textV
  split
  · rename_i t; exact (h t rfl).elim
  · rfl
theorem signs_text {l : List UInt8} (C : Nat) (h : ∀ t, l = 45 :: t → False) : (textS (45 :: l)).1 = (textS l).1 ∧ (textS (45 :: l)).2 = (textS l).2 + 1 ∧ textV C (45 :: l) = ⟨(textV C l).kind, true, (textV C l).d, (textV C l).k, (textV C l).big, (textV C l).cut⟩ := by
  rw [textS_plain h, textV_plain C h]
  refine ⟨rfl, rfl, ?_⟩
  show bodyV C true l = _
  unfold bodyV
  split
  · rfl
  · unfold itemV
    simp only
    split
    · rfl
    · split
      · rfl
      · split
        · rfl
        · split <;> rfl
/-- A word with more behind it is none. -/
theorem word_more (a b c : UInt8) (hw : [a, b, c] = wINF ∨ [a, b, c] = wNAN ∨ [a, b, c] = wNAR) (m : List UInt8) (hm : m ≠ []) : textS ([a, b, c] ++ m) = (false, 3) := by
  obtain ⟨x, r, rfl⟩ : ∃ x r, m = x :: r := by
    match m, hm with
    | x :: r, _ => exact ⟨x, r, rfl⟩
  have h45 : a ≠ 45 := by rcases hw with e | e | e <;> (injection e with e1; subst e1; decide)
  have hd : isDig a = false := by rcases hw with e | e | e <;> (injection e with e1; subst e1; decide)
  have hp : a ≠ 46 := by rcases hw with e | e | e <;> (injection e with e1; subst e1; decide)
  rw [textS_plain (fun t e => by injection e with e1 e2; exact h45 e1)]
  have hk : wordK ([a, b, c] ++ x :: r) = 0 := by
    unfold wordK wINF wNAN wNAR
    rw [if_neg (by simp), if_neg (by simp), if_neg (by simp)]
  have hn : wordN ([a, b, c] ++ x :: r) = 3 := by
    unfold wordN
    rcases hw with e | e | e
    · unfold wINF at e
      injection e with e1 e; injection e with e2 e; injection e with e3 e
      subst e1; subst e2; subst e3
      simp [lcp, wINF, wNAN, wNAR]
    · unfold wNAN at e
      injection e with e1 e; injection e with e2 e; injection e with e3 e
      subst e1; subst e2; subst e3
      simp [lcp, wINF, wNAN, wNAR]
    · unfold wNAR at e
      injection e with e1 e; injection e with e2 e; injection e with e3 e
      subst e1; subst e2; subst e3
      simp [lcp, wINF, wNAN, wNAR]
  unfold bodyS
  rw [if_neg (fun e => e hk), hn]
  show ((numS (a :: ([b, c] ++ x :: r))).1, max 3 (numS (a :: ([b, c] ++ x :: r))).2) = _
  rw [numS_other hd hp]
  rfl
/-- The place where no text goes on. -/
theorem text_place (l : List UInt8) (h : (textS l).1 = false) : (textS l).2 ≤ l.length ∧ (∃ e ∈ endL, (textS (l.take (textS l).2 ++ e)).1 = true) ∧
    ((textS l).2 < l.length → ∀ e, (textS (l.take ((textS l).2 + 1) ++ e)).1 = false ∧ (textS (l.take ((textS l).2 + 1) ++ e)).2 = (textS l).2) := by
  obtain ⟨h1, h2⟩ := outA_text l
  have h0 : (outA 0 l).1 = false := by rw [h1, h]
  rw [← h2 h0]
  refine ⟨outA_le 0 l, ?_, fun hl e => ?_⟩
  · obtain ⟨e, he, hg⟩ := place_goes 0 l (by decide) h0
    exact ⟨e, he, by rw [← (outA_text _).1]; exact hg⟩
  · have hd := place_dead 0 l e h0 hl
    obtain ⟨g1, g2⟩ := outA_text (l.take ((outA 0 l).2 + 1) ++ e)
    have hf : (outA 0 (l.take ((outA 0 l).2 + 1) ++ e)).1 = false := by rw [hd]
    rw [← g1, ← g2 hf, hd]
    exact ⟨rfl, rfl⟩
end Go.Cal
