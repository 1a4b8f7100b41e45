/- The nat layer: shifts to the right. Conditions: lengths below 2^38. -/
import Derived.Test.YtjhdkdfiadlmcaaGreatDoorNatH
namespace Go.Proofs.YtjhdkdfiadlmcaaGreatDoor
open Go.RowKit Go.Cal
structure ShrRel (b : Nat) (ys L : List Nat) (p i : Nat) : Prop where
  len : L.length = ys.length
  dig : Dig b L
  val : vl b (L.take i) * p + ys.getD 0 0 % p = vl b (ys.take i) + b ^ i * (ys.getD i 0 % p)
theorem ShrRel.start {b : Nat} (hb : 0 < b) (ys : List Nat) (p : Nat) : ShrRel b ys (List.replicate ys.length 0) p 0 :=
  ⟨by simp, dig_zeros hb _, by simp [vl]⟩
theorem ShrRel.step {b : Nat} {ys L : List Nat} {p i o : Nat} (h : ShrRel b ys L p i) (hi : i < ys.length) (ho : o < b) (he : o * p + ys.getD i 0 % p = ys.getD i 0 + b * (ys.getD (i + 1) 0 % p)) : ShrRel b ys (L.set i o) p (i + 1) := by
  refine ⟨by rw [List.length_set, h.len], dig_set h.dig _ ho, ?_⟩
  rw [vl_take_set (by rw [h.len]; exact hi), vl_getD, Nat.add_mul, Nat.pow_succ, Nat.mul_assoc, Nat.mul_assoc]
  have h1 := h.val
  have h2 : b ^ i * (o * p + ys.getD i 0 % p) = b ^ i * (ys.getD i 0 + b * (ys.getD (i + 1) 0 % p)) := by rw [he]
  rw [Nat.mul_add, Nat.mul_add] at h2
  omega
theorem ShrRel.done {b : Nat} {ys L : List Nat} {p : Nat} (h : ShrRel b ys L p ys.length) (hp : 0 < p) : vl b L = vl b ys / p := by
  have h1 := h.val
  rw [vl_take_all L _ (by rw [h.len]; exact Nat.le_refl _), vl_take_all ys _ (Nat.le_refl _)] at h1
  have h2 : ys.getD ys.length 0 = 0 := by simp [List.getD_eq_getElem?_getD]
  rw [h2, Nat.zero_mod, Nat.mul_zero, Nat.add_zero] at h1
  rw [← h1, Nat.mul_comm, Nat.mul_add_div hp, Nat.div_eq_of_lt (Nat.mod_lt _ hp), Nat.add_zero]
theorem shr_word {x y r : Nat} (hr : r < 64) (hx : x < 18446744073709551616) :
    ∃ o : Nat, bits .or .u64 ((x : Int) / 2 ^ r) (IntKind.u64.wrap ((y : Int) * 2 ^ (64 - r))) = (o : Int) ∧ o < 18446744073709551616 ∧ o * 2 ^ r + x % 2 ^ r = x + 18446744073709551616 * (y % 2 ^ r) := by
  have hp := Nat.two_pow_pos r
  have hp2 := Nat.two_pow_pos (64 - r)
  have e64 : 2 ^ (64 - r) * 2 ^ r = 18446744073709551616 := by rw [← Nat.pow_add, show 64 - r + r = 64 by omega]
  have h1 : x / 2 ^ r < 2 ^ (64 - r) := by rw [Nat.div_lt_iff_lt_mul hp, e64]; exact hx
  have h2 : y * 2 ^ (64 - r) % 18446744073709551616 = y % 2 ^ r * 2 ^ (64 - r) := by rw [← e64, Nat.mul_comm (2 ^ (64 - r)) (2 ^ r), Nat.mul_mod_mul_right]
  have h3 := Nat.mod_lt y hp
  have h4 : (y % 2 ^ r + 1) * 2 ^ (64 - r) ≤ 2 ^ r * 2 ^ (64 - r) := Nat.mul_le_mul_right _ h3
  rw [Nat.mul_comm (2 ^ r), e64, Nat.add_mul] at h4
  refine ⟨y % 2 ^ r * 2 ^ (64 - r) + x / 2 ^ r, ?_, by omega, ?_⟩
  · have e1 : (x : Int) / 2 ^ r = ((x / 2 ^ r : Nat) : Int) := by push_cast; rfl
    have e2 : (y : Int) * 2 ^ (64 - r) = ((y * 2 ^ (64 - r) : Nat) : Int) := by push_cast; rfl
    rw [e1, e2, wrap_u64, show ((y * 2 ^ (64 - r) : Nat) : Int) % 18446744073709551616 = ((y * 2 ^ (64 - r) % 18446744073709551616 : Nat) : Int) by omega, h2, u64_or_nat _ _ (by omega) (by omega), Nat.or_comm, nat_join (64 - r) _ _ (Nat.mul_mod_left _ _) h1]
  · rw [Nat.add_mul, Nat.mul_assoc, e64, Nat.mul_comm (y % 2 ^ r), Nat.add_assoc, Nat.div_add_mod', Nat.add_comm]
theorem getD_drop (xs : List Nat) (q i : Nat) : (xs.drop q).getD i 0 = xs.getD (i + q) 0 := by
  simp [List.getD_eq_getElem?_getD, List.getElem?_drop, Nat.add_comm]
theorem shr_value {xs : List Nat} {n q r : Nat} (d : Dig 18446744073709551616 xs) (hq : n / 64 = q) (hr : n % 64 = r) : vl 18446744073709551616 (xs.drop q) / 2 ^ r = vl 18446744073709551616 xs / 2 ^ n := by
  rw [← pow64 hq hr, ← Nat.div_div_eq_div_mul]
  congr 1
  by_cases h : q ≤ xs.length
  · have h1 := vl_split (b := 18446744073709551616) xs q h
    have h2 := vl_lt (dig_take d q)
    rw [List.length_take, Nat.min_eq_left h] at h2
    rw [h1, Nat.add_mul_div_left _ _ (Nat.pow_pos (by omega)), Nat.div_eq_of_lt h2, Nat.zero_add]
  · have h1 := vl_lt d
    have h2 : 18446744073709551616 ^ xs.length ≤ 18446744073709551616 ^ q := Nat.pow_le_pow_right (by omega) (by omega)
    rw [List.drop_of_length_le (by omega), Nat.div_eq_of_lt (by omega)]
    rfl
end Go.Proofs.YtjhdkdfiadlmcaaGreatDoor
