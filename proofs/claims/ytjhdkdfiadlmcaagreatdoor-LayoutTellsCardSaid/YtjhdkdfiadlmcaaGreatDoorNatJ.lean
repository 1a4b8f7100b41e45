/- The nat layer: one digit of a quotient. Conditions: lengths below 2^38; what is divided is less than a word times the divisor. -/
import Derived.Test.YtjhdkdfiadlmcaaGreatDoorNatI
import Derived.Test.YtjhdkdfiadlmcaaGreatDoorDig
namespace Go.Proofs.YtjhdkdfiadlmcaaGreatDoor
open Go.RowKit Go.Cal
theorem quiet_of2 {P : Program} {f : FuncId} {args : Array Value} {w : World} {k n : Nat} {v : Value}
    (h : Calls P f args (w.drewN (k + n)) fun e w' => e = .returned v ∧ Drawn (w.drewN (k + n)) w') : Calls P f args (w.drewN (k + n)) fun e w'' => e = .returned v ∧ ∃ m, w'' = w.drewN (k + m) :=
  h.mono fun _ _ ⟨he, m, hm⟩ => ⟨he, n + m, by rw [hm, World.drewN_drewN, Nat.add_assoc]⟩
theorem dig_words {x y c : Nat} (hx : x < 18446744073709551616) (hy : y < 18446744073709551616) (hc : c < 18446744073709551616) :
    x * y / 18446744073709551616 + (x * y % 18446744073709551616 + c) / 18446744073709551616 < 18446744073709551616 ∧
    x * y + c = (x * y % 18446744073709551616 + c) % 18446744073709551616 + 18446744073709551616 * (x * y / 18446744073709551616 + (x * y % 18446744073709551616 + c) / 18446744073709551616) := by
  have h : x * y ≤ 18446744073709551615 * 18446744073709551615 := Nat.mul_le_mul (by omega) (by omega)
  omega
theorem sub_words {u l b : Nat} (hu : u < 18446744073709551616) (hl : l < 18446744073709551616) (hb : b ≤ 1) :
    (u + 18446744073709551616 - l - b) % 18446744073709551616 < 18446744073709551616 ∧ (if u < l + b then 1 else 0) ≤ 1 ∧
    (u + 18446744073709551616 - l - b) % 18446744073709551616 + l + b = u + 18446744073709551616 * (if u < l + b then 1 else 0) := by
  split <;> omega
theorem add_words {u y c : Nat} (hu : u < 18446744073709551616) (hy : y < 18446744073709551616) (hc : c ≤ 1) :
    (u + y + c) % 18446744073709551616 < 18446744073709551616 ∧ (u + y + c) / 18446744073709551616 ≤ 1 ∧ u + y + c = (u + y + c) % 18446744073709551616 + 18446744073709551616 * ((u + y + c) / 18446744073709551616) := by
  omega
theorem dmend_pos {b X V P S G : Nat} (h : DMend b X V P S G 1) : 0 < G := by
  rcases Nat.eq_zero_or_pos G with h0 | h0
  · have h1 := h.val
    have h2 := h.lt
    subst h0
    omega
  · exact h0
/-- What digit tells and leaves. -/
def DigitR (w : World) (g k n : Nat) (L : List Nat) (X V : Nat) (e : Ending) (w' : World) : Prop :=
  ∃ L', e = .returned (.int .u64 ((X / V : Nat) : Int)) ∧ BlkU w' g 36 L' ∧ WinEq L L' k n ∧ Dig 18446744073709551616 L' ∧ vl 18446744073709551616 ((L'.drop k).take (n + 1)) = X % V ∧ w.grownBy w' (some g)
end Go.Proofs.YtjhdkdfiadlmcaaGreatDoor
