/- Plain: the whole text of a number by a power of two, and what a text is by one (chapter 16). Conditions: none. -/
import Derived.Test.YthafemcaekimpaaGreatDoorScanX
namespace Go.Cal
open Go.Lib
def qM (N : Nat) (e : Int) : Nat := if 0 ≤ e then N * 2 ^ e.toNat else N * 5 ^ (-e).toNat
def qF (e : Int) : Nat := (-e).toNat
def qfr (M f : Nat) : List UInt8 := trR (padd f (M % 10 ^ f))
def qtx (M f : Nat) : List UInt8 := decDigits (M / 10 ^ f) ++ (if qfr M f = [] then [] else 46 :: qfr M f)
def qsg (neg : Bool) (N : Nat) : List UInt8 := if neg = true ∧ N ≠ 0 then [45] else []
def qS (neg : Bool) (N : Nat) (e : Int) : List UInt8 := qsg neg N ++ qtx (qM N e) (qF e)
theorem padd_ten (f r : Nat) : padd (f + 1) (10 * r) = padd f r ++ [48] := by
  simp [padd]
theorem qfr_ten (M f : Nat) : qfr (M * 10) (f + 1) = qfr M f := by
  unfold qfr
  rw [Nat.pow_succ, Nat.mul_mod_mul_right, Nat.mul_comm _ 10, padd_ten]
  exact trR_zeros 1 _
theorem qtx_ten (M f : Nat) : qtx (M * 10) (f + 1) = qtx M f := by
  unfold qtx
  rw [qfr_ten, Nat.pow_succ, Nat.mul_div_mul_right _ _ (by decide)]
theorem qtx_tens (M f : Nat) : ∀ t, qtx (M * 10 ^ t) (f + t) = qtx M f
  | 0 => by simp
  | t + 1 => by rw [Nat.pow_succ, ← Nat.mul_assoc, ← Nat.add_assoc, qtx_ten, qtx_tens M f t]
theorem ten_pow (n : Nat) : 10 ^ n = 2 ^ n * 5 ^ n := by rw [← Nat.mul_pow]
theorem qM_moves (N t : Nat) (e : Int) : ∃ u, qM (N * 2 ^ t) (e - t) = qM N e * 10 ^ u ∧ qF (e - t) = qF e + u := by
  unfold qM qF
  by_cases h0 : 0 ≤ e
  · by_cases h1 : 0 ≤ e - t
    · refine ⟨0, ?_, by omega⟩
      rw [if_pos h0, if_pos h1, Nat.mul_assoc, ← Nat.pow_add, show t + (e - t).toNat = e.toNat by omega]
      simp
    · refine ⟨(t - e).toNat, ?_, by omega⟩
      rw [if_pos h0, if_neg h1, ten_pow, show (-(e - (t : Int))).toNat = (t - e).toNat by omega, Nat.mul_assoc, Nat.mul_assoc, ← Nat.mul_assoc (2 ^ e.toNat), ← Nat.pow_add, show e.toNat + (t - e).toNat = t by omega]
  · refine ⟨t, ?_, by omega⟩
    rw [if_neg h0, if_neg (by omega), ten_pow, show (-(e - (t : Int))).toNat = t + (-e).toNat by omega, Nat.pow_add, Nat.mul_assoc, Nat.mul_assoc, ← Nat.mul_assoc (2 ^ t), Nat.mul_comm (2 ^ t * 5 ^ t)]
/-- Twos that go from the number to the power do not matter. -/
theorem qS_moves (neg : Bool) (N t : Nat) (e : Int) : qS neg (N * 2 ^ t) (e - t) = qS neg N e := by
  obtain ⟨u, h1, h2⟩ := qM_moves N t e
  have hz : N * 2 ^ t ≠ 0 ↔ N ≠ 0 := by
    have := Nat.two_pow_pos t
    constructor
    · rintro h rfl; simp at h
    · intro h h'; rcases Nat.mul_eq_zero.1 h' with h' | h' <;> omega
  unfold qS qsg
  rw [h1, h2, qtx_tens]
  simp only [hz]
theorem dec_ne_nil (u : Nat) : decDigits u ≠ [] := dec_ne u
theorem qtx_ne (M f : Nat) : qtx M f ≠ [] := fun h => dec_ne _ (List.append_eq_nil_iff.1 h).1
theorem qS_ne (neg : Bool) (N : Nat) (e : Int) : qS neg N e ≠ [] := fun h => qtx_ne _ _ (List.append_eq_nil_iff.1 h).2
/-- The digits, with as many noughts ahead as want for one ahead of the point. -/
theorem qpad (M f : Nat) (hf : 1 ≤ f) : List.replicate (f + 1 - (decDigits M).length) 48 ++ decDigits M = decDigits (M / 10 ^ f) ++ padd f (M % 10 ^ f) := by
  have hp : 0 < 10 ^ f := Nat.pow_pos (by decide)
  have hr : M % 10 ^ f < 10 ^ f := Nat.mod_lt _ hp
  by_cases hq : M / 10 ^ f = 0
  · have hM : M < 10 ^ f := by
      rcases Nat.div_eq_zero_iff.1 hq with h | h
      · omega
      · exact h
    obtain ⟨h1, h2⟩ := padd_dec f M hf hM
    rw [hq, Nat.mod_eq_of_lt hM, h1, show f + 1 - (decDigits M).length = (f - (decDigits M).length) + 1 from (by have := h2; omega), List.replicate_succ, show decDigits 0 = [48] by rw [dec_small (by decide)]; rfl]
    rfl
  · have hd := dec_padd f (M / 10 ^ f) (M % 10 ^ f) (Nat.pos_of_ne_zero hq) hr
    rw [Nat.div_add_mod'] at hd
    have hl : (decDigits M).length = (decDigits (M / 10 ^ f)).length + f := by rw [hd, List.length_append, padd_length]
    have h1 := List.length_pos_iff.2 (dec_ne (M / 10 ^ f))
    rw [show f + 1 - (decDigits M).length = 0 by omega, hd]
    rfl
/-- What is left of a number where powers of five and two are taken away. -/
def qdv (m p : Nat) : Option Nat := if m % p = 0 then some (m / p) else none
def qwh (d : Nat) (k e : Int) : Option Nat :=
  (if 0 ≤ k then some (d * 5 ^ k.toNat) else qdv d (5 ^ (-k).toNat)).bind fun m => if 0 ≤ k - e then some (m * 2 ^ (k - e).toNat) else qdv m (2 ^ (-(k - e)).toNat)
def qB : Nat := 2 ^ 2048
def qfar (e : Int) : Prop := e < -1200 ∨ 1200 < e
instance (e : Int) : Decidable (qfar e) := by unfold qfar; exact inferInstance
/-- What Parse tells: what is wrong; the sign; the number. -/
def qP (l : List UInt8) (e : Int) : Nat × Bool × Nat :=
  if qfar e then (1, false, 0)
  else if (textS l).1 = false ∨ (textV 1125899906842624 l).kind ≠ 1 then (2, false, 0)
  else if (textV 1125899906842624 l).big ≠ 0 ∨ (textV 1125899906842624 l).cut = true then (8, false, 0)
  else match qwh (textV 1125899906842624 l).d (textV 1125899906842624 l).k e with
    | none => (8, false, 0)
    | some m => if m < qB then (0, (textV 1125899906842624 l).neg && decide (m ≠ 0), m) else (4, false, 0)
end Go.Cal
