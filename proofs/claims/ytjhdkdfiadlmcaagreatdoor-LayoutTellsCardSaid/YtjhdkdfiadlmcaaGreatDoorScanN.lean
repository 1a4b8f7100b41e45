/- Plain: how far a number's digits go. Conditions: none. -/
import Derived.Test.YtjhdkdfiadlmcaaGreatDoorScanX
namespace Go.Cal
/-- How far the digits go, the point with them. -/
def numP (t : List UInt8) : Nat := t.length - (numR t).length
theorem numR_suffix (t : List UInt8) : numR t <:+ t := by
  unfold numR
  have h := List.dropWhile_suffix (l := t) isDig
  split
  · rename_i r e
    rw [e] at h
    exact ((List.dropWhile_suffix (l := r) isDig).trans (List.suffix_cons 46 r)).trans h
  · exact h
theorem num_pt {t r : List UInt8} (e : t.dropWhile isDig = 46 :: r) : numD t = t.takeWhile isDig ++ r.takeWhile isDig ∧ numB t = (r.takeWhile isDig).length ∧ numR t = r.dropWhile isDig ∧
    numS t = if (t.takeWhile isDig).isEmpty && (r.takeWhile isDig).isEmpty then (false, 1) else ((expS (r.dropWhile isDig)).1, (t.takeWhile isDig).length + 1 + (r.takeWhile isDig).length + (expS (r.dropWhile isDig)).2) := by
  unfold numD numB numR numS
  rw [e]
  exact ⟨rfl, rfl, rfl, rfl⟩
theorem num_np {t : List UInt8} (hne : ∀ r, t.dropWhile isDig = 46 :: r → False) : numD t = t.takeWhile isDig ∧ numB t = 0 ∧ numR t = t.dropWhile isDig ∧
    numS t = if (t.takeWhile isDig).isEmpty then (false, 0) else ((expS (t.dropWhile isDig)).1, (t.takeWhile isDig).length + (expS (t.dropWhile isDig)).2) := by
  unfold numD numB numR numS
  generalize t.takeWhile isDig = a
  generalize t.dropWhile isDig = x at hne ⊢
  match x, hne with
  | [], _ => exact ⟨rfl, rfl, rfl, rfl⟩
  | c :: s, hne =>
    refine ⟨?_, ?_, ?_, ?_⟩
    all_goals
      split
      · rename_i r e
        exact (hne r e).elim
      · rfl
theorem numS_eq (t : List UInt8) : numS t = if numD t = [] then (false, numP t) else ((expS (numR t)).1, numP t + (expS (numR t)).2) := by
  have hsp := congrArg List.length (span_split t)
  rw [List.length_append] at hsp
  unfold numP
  by_cases hp : ∃ r, t.dropWhile isDig = 46 :: r
  · obtain ⟨r, e⟩ := hp
    obtain ⟨h1, h2, h3, h4⟩ := num_pt e
    rw [h4, h1, h3]
    have hsp2 := congrArg List.length (span_split r)
    rw [List.length_append] at hsp2
    rw [e, List.length_cons] at hsp
    by_cases h : t.takeWhile isDig ++ r.takeWhile isDig = []
    · obtain ⟨g1, g2⟩ := List.append_eq_nil_iff.1 h
      rw [g1, List.length_nil] at hsp
      rw [g2, List.length_nil] at hsp2
      rw [if_pos h, g1, g2]
      exact Prod.ext rfl (by show 1 = _ - _; omega)
    · rw [if_neg h]
      have : ((t.takeWhile isDig).isEmpty && (r.takeWhile isDig).isEmpty) = false := by
        rw [Bool.and_eq_false_iff]
        by_cases g : t.takeWhile isDig = []
        · right
          simp only [g, List.nil_append] at h
          simpa using h
        · left
          simpa using g
      rw [this]
      exact Prod.ext rfl (by show _ + 1 + _ + _ = _ - _ + _; omega)
  · obtain ⟨h1, h2, h3, h4⟩ := num_np (fun r e => hp ⟨r, e⟩)
    rw [h4, h1, h3]
    by_cases h : t.takeWhile isDig = []
    · rw [if_pos h]
      rw [h, List.length_nil] at hsp
      rw [h]
      exact Prod.ext rfl (by show 0 = _ - _; omega)
    · rw [if_neg h]
      have : (t.takeWhile isDig).isEmpty = false := by simpa using h
      rw [this]
      exact Prod.ext rfl (by show _ + _ = _ - _ + _; omega)
theorem itemV_neg (neg : Bool) (ds : List UInt8) (k : Int) : itemV neg ds k = ⟨(itemV false ds k).kind, neg, (itemV false ds k).d, (itemV false ds k).k, (itemV false ds k).big, (itemV false ds k).cut⟩ := by
  unfold itemV
  simp only
  split
  · rfl
  · split
    · rfl
    · split
      · rfl
      · split <;> rfl
theorem expV_bound (C : Nat) (t : List UInt8) : -(C : Int) ≤ expV C t ∧ expV C t ≤ (C : Int) := by
  have h : ∀ r, expM C r ≤ C := fun r => by unfold expM; omega
  match t with
  | [] => exact ⟨by show _ ≤ (0 : Int); omega, by show (0 : Int) ≤ _; omega⟩
  | [_] => exact ⟨by show _ ≤ (0 : Int); omega, by show (0 : Int) ≤ _; omega⟩
  | e :: c :: r =>
    have h1 := h r
    have h2 := h (c :: r)
    rw [expV_cons]
    split
    · omega
    · split <;> omega
theorem numDB_le (t : List UInt8) : (numD t).length ≤ t.length ∧ numB t ≤ t.length := by
  have hsp := congrArg List.length (span_split t)
  rw [List.length_append] at hsp
  by_cases hp : ∃ r, t.dropWhile isDig = 46 :: r
  · obtain ⟨r, e⟩ := hp
    obtain ⟨h1, h2, _⟩ := num_pt e
    have hsp2 := congrArg List.length (span_split r)
    rw [List.length_append] at hsp2
    rw [e, List.length_cons] at hsp
    rw [h1, h2, List.length_append]
    omega
  · obtain ⟨h1, h2, _⟩ := num_np (fun r e => hp ⟨r, e⟩)
    rw [h1, h2]
    omega
theorem numD_le (t : List UInt8) : (numD t).length ≤ t.length := (numDB_le t).1
theorem numB_le (t : List UInt8) : numB t ≤ t.length := (numDB_le t).2
end Go.Cal
