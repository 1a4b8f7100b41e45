/- The nat layer: shifts. Conditions: lengths below 2^38. -/
import Derived.Test.YtjhdkdfiadlmcaaGreatDoorNatG
namespace Go.Proofs.YtjhdkdfiadlmcaaGreatDoor
open Go.RowKit Go.Cal
/-- What stands at the head of a round of a shift: i words are shifted by q words and r bits. -/
structure ShlRel (b : Nat) (xs L : List Nat) (q p i : Nat) : Prop where
  len : L.length = xs.length + q + 1
  dig : Dig b L
  mid : L.getD (i + q) 0 < p
  zero : ∀ j, i + q < j → L.getD j 0 = 0
  val : vl b L = vl b (xs.take i) * (b ^ q * p)
theorem ShlRel.start {b : Nat} (hb : 0 < b) (xs : List Nat) (q p : Nat) (hp : 0 < p) : ShlRel b xs (List.replicate (xs.length + q + 1) 0) q p 0 := by
  have hz : ∀ j, (List.replicate (xs.length + q + 1) 0).getD j 0 = 0 := fun j => by
    simp [List.getD_eq_getElem?_getD, List.getElem?_replicate]; split <;> rfl
  exact ⟨by simp, dig_zeros hb _, by rw [hz]; exact hp, fun j _ => hz j, by simp [vl, vl_zeros]⟩
theorem ShlRel.step {b : Nat} {xs L : List Nat} {q p i x : Nat} (h : ShlRel b xs L q p i) (hi : i < xs.length) (hx : xs.getD i 0 = x) (hxb : x < b) (hp : 0 < p) (hs : L.getD (i + q) 0 + x * p % b < b) (hpb : p ≤ b) :
    ShlRel b xs ((L.set (i + q) (L.getD (i + q) 0 + x * p % b)).set (i + q + 1) (x * p / b)) q p (i + 1) := by
  have hb : 0 < b := by omega
  have hlt : x * p / b < p := by
    rw [Nat.div_lt_iff_lt_mul hb, Nat.mul_comm p b]
    exact Nat.mul_lt_mul_of_pos_right hxb hp
  have hlen := h.len
  have hz := h.zero (i + q + 1) (by omega)
  refine ⟨by simp [hlen], dig_set (dig_set h.dig _ hs) _ (by omega), ?_, fun j hj => ?_, ?_⟩
  · rw [show i + 1 + q = i + q + 1 by omega, getD_set_eq (by simp; omega)]; exact hlt
  · rw [Go.Cal.getD_set_ne (by omega), Go.Cal.getD_set_ne (by omega)]; exact h.zero j (by omega)
  · have h1 := vl_set (b := b) (L.set (i + q) (L.getD (i + q) 0 + x * p % b)) (i + q + 1) (x * p / b) (by simp; omega)
    have h2 := vl_set (b := b) L (i + q) (L.getD (i + q) 0 + x * p % b) (by omega)
    rw [Go.Cal.getD_set_ne (by omega), hz, Nat.mul_zero, Nat.add_zero] at h1
    rw [h1, vl_getD, hx, Nat.add_mul, ← h.val]
    rw [Nat.mul_add] at h2
    have h3 : b ^ (i + q) * (x * p % b) + b ^ (i + q + 1) * (x * p / b) = b ^ i * x * (b ^ q * p) := by
      rw [Nat.pow_succ, Nat.mul_assoc, ← Nat.mul_add, Nat.mod_add_div, Nat.pow_add]
      simp only [Nat.mul_assoc, Nat.mul_left_comm]
    omega
theorem shl_word {o x r : Nat} (hr : r < 64) (ho : o < 2 ^ r) :
    bits .or .u64 (o : Int) (IntKind.u64.wrap ((x : Int) * 2 ^ r)) = ((o + x * 2 ^ r % 18446744073709551616 : Nat) : Int) ∧ (x : Int) / 2 ^ (64 - r) = ((x * 2 ^ r / 18446744073709551616 : Nat) : Int) ∧ o + x * 2 ^ r % 18446744073709551616 < 18446744073709551616 ∧ 2 ^ r ≤ 18446744073709551616 := by
  have hp := Nat.two_pow_pos r
  have e64 : 2 ^ (64 - r) * 2 ^ r = 18446744073709551616 := by rw [← Nat.pow_add, show 64 - r + r = 64 by omega]
  have hple : 2 ^ r ≤ 18446744073709551616 := by
    have := Nat.two_pow_pos (64 - r)
    have := Nat.mul_le_mul_right (2 ^ r) this
    omega
  have hm : x * 2 ^ r % 18446744073709551616 % 2 ^ r = 0 := by
    rw [← e64, Nat.mul_mod_mul_right, Nat.mul_mod_left]
  have hlt := Nat.mod_lt (x * 2 ^ r) (show 0 < 18446744073709551616 by omega)
  have hob : o + x * 2 ^ r % 18446744073709551616 < 18446744073709551616 := by
    have hd : 2 ^ r ∣ x * 2 ^ r % 18446744073709551616 := Nat.dvd_of_mod_eq_zero hm
    obtain ⟨k, hk⟩ := hd
    have h2 : 2 ^ r * k < 2 ^ r * 2 ^ (64 - r) := by rw [← hk, Nat.mul_comm (2 ^ r) (2 ^ (64 - r)), e64]; exact hlt
    have h3 : k + 1 ≤ 2 ^ (64 - r) := Nat.lt_of_mul_lt_mul_left h2
    have h4 := Nat.mul_le_mul_left (2 ^ r) h3
    rw [Nat.mul_add, ← hk, Nat.mul_comm (2 ^ r) (2 ^ (64 - r)), e64] at h4
    omega
  refine ⟨?_, ?_, hob, hple⟩
  · have e1 : (x : Int) * 2 ^ r = ((x * 2 ^ r : Nat) : Int) := by push_cast; rfl
    rw [e1, wrap_u64, show ((x * 2 ^ r : Nat) : Int) % 18446744073709551616 = ((x * 2 ^ r % 18446744073709551616 : Nat) : Int) by omega, u64_or_nat _ _ (by omega) hlt, Nat.or_comm, nat_join r _ _ hm ho, Nat.add_comm]
  · rw [← e64, Nat.mul_div_mul_right _ _ hp]; push_cast; rfl
theorem pow64 {n q r : Nat} (hq : n / 64 = q) (hr : n % 64 = r) : 18446744073709551616 ^ q * 2 ^ r = 2 ^ n := by
  rw [show 18446744073709551616 = 2 ^ 64 from rfl, ← Nat.pow_mul, ← Nat.pow_add]
  congr 1; omega
end Go.Proofs.YtjhdkdfiadlmcaaGreatDoor
