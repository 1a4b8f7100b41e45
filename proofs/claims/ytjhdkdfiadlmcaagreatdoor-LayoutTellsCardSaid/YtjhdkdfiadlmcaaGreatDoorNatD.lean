/- The nat layer, fourth part: differences. Conditions: lengths below 2^39. -/
import Derived.Test.YtjhdkdfiadlmcaaGreatDoorNatC
import Derived.StillTailTactics
namespace Go.Proofs.YtjhdkdfiadlmcaaGreatDoor
open Go.RowKit Go.Cal
/-- What stands at the head of a round of a difference. -/
structure SubRel (xs ys L : List Nat) (k c : Nat) : Prop where
  len : L.length = xs.length
  dig : Dig 18446744073709551616 L
  carry : c ≤ 1
  sum : vl 18446744073709551616 (L.take k) + vl 18446744073709551616 (ys.take k) = vl 18446744073709551616 (xs.take k) + 18446744073709551616 ^ k * c
theorem SubRel.start (xs ys : List Nat) : SubRel xs ys (List.replicate xs.length 0) 0 0 :=
  ⟨by simp, dig_zeros (by omega) _, by omega, by simp [vl]⟩
theorem SubRel.step {xs ys L : List Nat} {k c x y : Nat} (h : SubRel xs ys L k c) (hk : k < xs.length) (hx : xs.getD k 0 = x) (hy : ys.getD k 0 = y) (h1 : x < 18446744073709551616) (h2 : y < 18446744073709551616) :
    SubRel xs ys (L.set k ((x + 18446744073709551616 - y - c) % 18446744073709551616)) (k + 1) (if x < y + c then 1 else 0) := by
  have hc := h.carry
  refine ⟨by rw [List.length_set, h.len], dig_set h.dig _ (Nat.mod_lt _ (by omega)), by split <;> omega, ?_⟩
  rw [vl_take_set (by rw [h.len]; omega), vl_getD, vl_getD, hx, hy, Nat.pow_succ]
  refine diff_step h.sum ?_
  split <;> omega
theorem sub_end {xs ys L : List Nat} {c : Nat} (h : SubRel xs ys L xs.length c) (hle : vl 18446744073709551616 ys ≤ vl 18446744073709551616 xs) (d1 : Dig 18446744073709551616 xs) :
    vl 18446744073709551616 L = vl 18446744073709551616 xs - vl 18446744073709551616 ys := by
  have h1 := h.sum
  rw [vl_take_all L _ (by rw [h.len]; exact Nat.le_refl _), vl_take_all xs _ (Nat.le_refl _)] at h1
  have hl := vl_lt h.dig
  rw [h.len] at hl
  have hx := vl_lt d1
  by_cases hy : ys.length ≤ xs.length
  · rw [vl_take_all ys _ hy] at h1
    rcases Nat.eq_zero_or_pos c with hc | hc
    · subst hc; omega
    · have : 18446744073709551616 ^ xs.length * 1 ≤ 18446744073709551616 ^ xs.length * c := Nat.mul_le_mul_left _ hc
      omega
  · have hs := vl_split (b := 18446744073709551616) ys xs.length (by omega)
    have hz : vl 18446744073709551616 (ys.drop xs.length) = 0 := by
      rcases Nat.eq_zero_or_pos (vl 18446744073709551616 (ys.drop xs.length)) with h0 | h0
      · exact h0
      · have : 18446744073709551616 ^ xs.length * 1 ≤ 18446744073709551616 ^ xs.length * vl 18446744073709551616 (ys.drop xs.length) := Nat.mul_le_mul_left _ h0
        omega
    rw [hz, Nat.mul_zero, Nat.add_zero] at hs
    rw [← hs] at h1
    rcases Nat.eq_zero_or_pos c with hc | hc
    · subst hc; omega
    · have : 18446744073709551616 ^ xs.length * 1 ≤ 18446744073709551616 ^ xs.length * c := Nat.mul_le_mul_left _ hc
      omega
/-- A difference, if there is one. -/
def RetSub (w : World) (X Y : Nat) (e : Ending) (w' : World) : Prop :=
  if X < Y then e = .returned (.tuple #[.slice none 0 0, .bool false]) ∧ Below w.heap.size w w'
  else ∃ A c zs, e = .returned (.tuple #[.slice A (zs : List Nat).length c, .bool true]) ∧ GotU w' w.heap.size A c zs ∧ Nrm zs (X - Y) ∧ Below w.heap.size w w'
end Go.Proofs.YtjhdkdfiadlmcaaGreatDoor
