/- The nat layer: Word, Bits, Bit, Even. Conditions: lengths below 2^36. -/
import Derived.Test.YtjhdkdfiadlmcaaGreatDoorNatL
namespace Go.Proofs.YtjhdkdfiadlmcaaGreatDoor
open Go.RowKit Go.Cal
/-- How many bits. -/
def blen (N : Nat) : Nat := if N = 0 then 0 else Nat.log2 N + 1
theorem blen_zero : blen 0 = 0 := rfl
theorem blen_of {N k : Nat} (h1 : 2 ^ k ≤ N) (h2 : N < 2 ^ (k + 1)) : blen N = k + 1 := by
  have hp := Nat.two_pow_pos k
  have h0 : N ≠ 0 := by omega
  unfold blen
  rw [if_neg h0]
  have h3 := (Nat.le_log2 h0).2 h1
  have h4 := (Nat.log2_lt h0).2 h2
  omega
theorem blen_lt (N : Nat) : N < 2 ^ blen N := by
  unfold blen
  split
  · next h => subst h; decide
  · exact Nat.lt_log2_self
theorem blen_le {N k : Nat} (h : N < 2 ^ k) : blen N ≤ k := by
  unfold blen
  split
  · omega
  · next h0 => have := (Nat.log2_lt h0).2 h; omega
theorem vl_at {b : Nat} (hb : 0 < b) : ∀ {xs : List Nat}, Dig b xs → ∀ i, vl b xs / b ^ i % b = xs.getD i 0
  | [], _, i => by simp [vl]
  | x :: xs, h, 0 => by
    have hx : x < b := h x (by simp)
    simp [vl, Nat.add_mul_mod_self_left, Nat.mod_eq_of_lt hx]
  | x :: xs, h, i + 1 => by
    have hx : x < b := h x (by simp)
    have ih := vl_at hb (xs := xs) (fun y hy => h y (by simp [hy])) i
    rw [Nat.pow_succ, Nat.mul_comm (b ^ i) b, ← Nat.div_div_eq_div_mul]
    simp only [vl]
    rw [Nat.add_mul_div_left _ _ hb, Nat.div_eq_of_lt hx, Nat.zero_add, ih]
    simp
theorem vl_bit {xs : List Nat} (d : Dig 18446744073709551616 xs) (i : Nat) : (xs.getD (i / 64) 0).testBit (i % 64) = (vl 18446744073709551616 xs).testBit i := by
  rw [← vl_at (by omega) d, show 18446744073709551616 = 2 ^ 64 from rfl, ← Nat.pow_mul, Nat.testBit_mod_two_pow]
  rw [decide_eq_true (Nat.mod_lt i (by omega)), Bool.true_and, ← Nat.shiftRight_eq_div_pow, Nat.testBit_shiftRight]
  congr 1
  omega
theorem vl_blen {xs : List Nat} (d : Dig 18446744073709551616 xs) (t : Top xs) (h : 0 < xs.length) :
    blen (vl 18446744073709551616 xs) = 64 * (xs.length - 1) + Lib.bitLen (xs.getD (xs.length - 1) 0) := by
  obtain ⟨m, hm⟩ : ∃ m, xs.length = m + 1 := ⟨xs.length - 1, by omega⟩
  have h0 : xs.getD m 0 ≠ 0 := by
    have h1 := t (by intro e; subst e; simp at hm)
    rw [List.getLast_eq_getElem] at h1
    rw [List.getD_eq_getElem?_getD, List.getElem?_eq_getElem (by omega)]
    simpa [hm] using h1
  have hb := dig_getD (b := 18446744073709551616) (by omega) d m
  rw [hm, Nat.add_sub_cancel]
  generalize hx : xs.getD m 0 = x at h0 hb ⊢
  obtain ⟨s1, s2⟩ := bitLen_spec x x (Nat.le_refl _) hb
  obtain ⟨s2, s3⟩ := s2 h0
  obtain ⟨l, hl⟩ : ∃ l, Lib.bitLen x = l + 1 := ⟨Lib.bitLen x - 1, by omega⟩
  rw [hl] at s1 s2 ⊢
  have hv : vl 18446744073709551616 xs = vl 18446744073709551616 (xs.take m) + 18446744073709551616 ^ m * x := by
    rw [← hx, ← vl_getD, vl_take_all _ _ (by omega)]
  have hlo := vl_lt (dig_take d m)
  rw [List.length_take, Nat.min_eq_left (by omega)] at hlo
  have hp : 18446744073709551616 ^ m = 2 ^ (64 * m) := by rw [show 18446744073709551616 = 2 ^ 64 from rfl, ← Nat.pow_mul]
  rw [hp] at hv hlo
  refine blen_of (k := 64 * m + l) ?_ ?_
  · rw [Nat.pow_add, hv]
    have := Nat.mul_le_mul_left (2 ^ (64 * m)) s2
    rw [Nat.add_sub_cancel] at this
    omega
  · rw [Nat.add_assoc, Nat.pow_add, hv]
    have := Nat.mul_le_mul_left (2 ^ (64 * m)) (show x + 1 ≤ 2 ^ (l + 1) from s1)
    rw [Nat.mul_add] at this
    omega
theorem bit_val (x r : Nat) (hx : x < 18446744073709551616) : ((bits .and .u64 ((x : Int) / 2 ^ r) 1 == 1) : Bool) = x.testBit r := by
  have e1 : (x : Int) / 2 ^ r = ((x / 2 ^ r : Nat) : Int) := by push_cast; rfl
  have hlt : x / 2 ^ r < 18446744073709551616 := Nat.lt_of_le_of_lt (Nat.div_le_self _ _) hx
  have hm := Nat.mod_lt (x / 2 ^ r) (show 0 < 2 by omega)
  rw [e1, show (1 : Int) = ((1 : Nat) : Int) from rfl, u64_and_nat _ _ hlt (by omega), Nat.and_one_is_mod, Nat.testBit_eq_decide_div_mod_eq, Bool.eq_iff_iff]
  simp
  omega
end Go.Proofs.YtjhdkdfiadlmcaaGreatDoor
