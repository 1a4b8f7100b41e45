/- The nat layer, fourth part: differences. Conditions: lengths below 2^39. -/
import Derived.Test.YtncfbleeidjflaaGreatDoorPz08
import Derived.StillTailTactics
namespace Go.Proofs.YtncfbleeidjflaaGreatDoor
open Go.RowKit Go.Cal
/-- What stands at the head of a round of a difference. -/
structure SubRel (xs ys L : List Nat) (k c : Nat) : Prop where
  len : L.length = xs.length
  dig : Dig 18446744073709551616 L
  carry : c ≤ 1
  sum : vl 18446744073709551616 (L.take k) + vl 18446744073709551616 (ys.take k) = vl 18446744073709551616 (xs.take k) + 18446744073709551616 ^ k * c
theorem SubRel.start (xs ys : List Nat) : SubRel xs ys (List.replicate xs.length 0) 0 0 :=
  ⟨by simp, dig_zeros (by omega) _, by omega, by simp [vl]⟩
theorem SubRel.step {xs ys L : List Nat} {k c x y : Nat} (h : SubRel xs ys L k c) (hk : k < xs.length) (hx : xs.getD k 0 = x) (hy : ys.getD k 0 = y) (h1 : x < 18446744073709551616) (h2 : y < 18446744073709551616) :
    SubRel xs ys (L.set k ((x + 18446744073709551616 - y - c) % 18446744073709551616)) (k + 1) (if x < y + c then 1 else 0) := by
  have hc := h.carry
  refine ⟨by rw [List.length_set, h.len], dig_set h.dig _ (Nat.mod_lt _ (by omega)), by split <;> omega, ?_⟩
  rw [vl_take_set (by rw [h.len]; omega), vl_getD, vl_getD, hx, hy, Nat.pow_succ]
  refine diff_step h.sum ?_
  split <;> omega
end Go.Proofs.YtncfbleeidjflaaGreatDoor
