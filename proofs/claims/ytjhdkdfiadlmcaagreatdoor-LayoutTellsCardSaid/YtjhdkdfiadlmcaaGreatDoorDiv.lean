/- Plain numbers: a word out of two by one (the schoolbook digit, guessed and mended). No program in sight. -/
namespace Go.Cal
/-- A guessed digit: never too small. -/
structure QRel (y1 y0 u n qh rh : Nat) : Prop where
  sum : qh * y1 + rh = u
  big : u * 4294967296 + n < (qh + 1) * (y1 * 4294967296 + y0)
  top : qh ≤ 4294967297
  left : rh < 4294967296
theorem QRel.start {y1 y0 u n : Nat} (h1 : 2147483648 ≤ y1) (h1' : y1 < 4294967296) (h0 : y0 < 4294967296) (hn : n < 4294967296) (hu : u < y1 * 4294967296 + y0) : QRel y1 y0 u n (u / y1) (u - u / y1 * y1) := by
  have hp : 0 < y1 := by omega
  have hd := Nat.div_add_mod u y1
  have hm := Nat.mod_lt u hp
  rw [Nat.mul_comm] at hd
  refine ⟨by omega, ?_, ?_, by omega⟩
  · have : (u + 1) * 4294967296 ≤ (u / y1 + 1) * y1 * 4294967296 := Nat.mul_le_mul_right _ (by rw [Nat.add_mul]; omega)
    rw [Nat.mul_add, ← Nat.mul_assoc]
    have h3 : 0 ≤ (u / y1 + 1) * y0 := Nat.zero_le _
    omega
  · apply Nat.le_of_lt_succ
    rw [Nat.div_lt_iff_lt_mul hp]
    omega
/-- The guess is right. -/
theorem QRel.done {y1 y0 u n qh rh : Nat} (h : QRel y1 y0 u n qh rh) (hq : qh * y0 ≤ 4294967296 * rh + n) : qh = (u * 4294967296 + n) / (y1 * 4294967296 + y0) := by
  have h1 := h.sum
  have h2 := h.big
  have e : qh * (y1 * 4294967296 + y0) = qh * y1 * 4294967296 + qh * y0 := by rw [Nat.mul_add, ← Nat.mul_assoc]
  symm
  apply Nat.div_eq_of_lt_le
  · omega
  · exact h2
/-- The guess is mended. -/
theorem QRel.mend {y1 y0 u n qh rh : Nat} (h : QRel y1 y0 u n qh rh) (hu : u < y1 * 4294967296 + y0) (hn : n < 4294967296) (hc : 4294967296 ≤ qh ∨ 4294967296 * rh + n < qh * y0) :
    0 < qh ∧ (rh + y1 < 4294967296 → QRel y1 y0 u n (qh - 1) (rh + y1)) ∧ (y0 < 4294967296 → 4294967296 ≤ rh + y1 → qh - 1 = (u * 4294967296 + n) / (y1 * 4294967296 + y0)) := by
  have h0 : 0 < qh := by
    rcases hc with hc | hc
    · omega
    · rcases Nat.eq_zero_or_pos qh with h | h
      · subst h; omega
      · exact h
  obtain ⟨q, rfl⟩ : ∃ q, qh = q + 1 := ⟨qh - 1, by omega⟩
  have h1 := h.sum
  have h2 := h.big
  have h3 := h.top
  rw [Nat.add_mul] at h1
  have e : (q + 1) * (y1 * 4294967296 + y0) = (q * y1 + 1 * y1) * 4294967296 + (q + 1) * y0 := by rw [Nat.mul_add, ← Nat.mul_assoc, Nat.add_mul]
  have hbig : u * 4294967296 + n < (q + 1) * (y1 * 4294967296 + y0) := by
    rcases hc with hc | hc
    · have : 4294967296 * (y1 * 4294967296 + y0) ≤ (q + 1) * (y1 * 4294967296 + y0) := Nat.mul_le_mul_right _ hc
      omega
    · omega
  refine ⟨by omega, fun hr => ⟨by simp; omega, by simpa using hbig, by simp; omega, hr⟩, fun hy hr => ?_⟩
  rw [Nat.add_sub_cancel]
  symm
  have e2 : q * (y1 * 4294967296 + y0) = q * y1 * 4294967296 + q * y0 := by rw [Nat.mul_add, ← Nat.mul_assoc]
  have h5 : q * y0 ≤ 4294967296 * 4294967295 := Nat.mul_le_mul (by omega) (by omega)
  apply Nat.div_eq_of_lt_le
  · omega
  · exact hbig
/-- Two digits of a quotient, one behind the other. -/
theorem two_digits_b {b Y u n1 n0 : Nat} (hY : 0 < Y) :
    (u * b + n1) / Y * b + ((u * b + n1) % Y * b + n0) / Y = ((u * b + n1) * b + n0) / Y ∧ ((u * b + n1) % Y * b + n0) % Y = ((u * b + n1) * b + n0) % Y := by
  have h := Nat.div_add_mod (u * b + n1) Y
  have e : (u * b + n1) * b + n0 = ((u * b + n1) % Y * b + n0) + Y * ((u * b + n1) / Y * b) := by
    conv => lhs; rw [← h]
    rw [Nat.add_mul, Nat.mul_assoc]; omega
  rw [e, Nat.add_mul_div_left _ _ hY, Nat.add_mul_mod_self_left]
  exact ⟨Nat.add_comm _ _, rfl⟩
theorem digit_lt {Y u n : Nat} (hu : u < Y) (hn : n < 4294967296) : (u * 4294967296 + n) / Y < 4294967296 := by
  rw [Nat.div_lt_iff_lt_mul (by omega)]
  have : (u + 1) * 4294967296 ≤ Y * 4294967296 := Nat.mul_le_mul_right _ hu
  rw [Nat.mul_comm 4294967296 Y]
  omega
/-- What is divided and what divides, times the same: the quotient stays, what is left is as many times as great. -/
theorem scaled {N y p : Nat} (hp : 0 < p) : N * p / (y * p) = N / y ∧ N * p % (y * p) / p = N % y := by
  refine ⟨Nat.mul_div_mul_right _ _ hp, ?_⟩
  rw [Nat.mul_mod_mul_right, Nat.mul_div_cancel _ hp]
theorem shl_parts {hi lo y s : Nat} (hs : s ≤ 63) (hlo : lo < 18446744073709551616) (hy : hi < y) (hY1 : y * 2 ^ s < 18446744073709551616) :
    lo / 2 ^ (64 - s) < 2 ^ s ∧ hi * 2 ^ s < 18446744073709551616 ∧ (hi * 2 ^ s + lo / 2 ^ (64 - s)) * 18446744073709551616 + lo * 2 ^ s % 18446744073709551616 = (hi * 18446744073709551616 + lo) * 2 ^ s ∧ hi * 2 ^ s + lo / 2 ^ (64 - s) < y * 2 ^ s := by
  have hp := Nat.two_pow_pos s
  have e64 : 2 ^ (64 - s) * 2 ^ s = 18446744073709551616 := by rw [← Nat.pow_add, show 64 - s + s = 64 by omega]
  have h1 : lo / 2 ^ (64 - s) < 2 ^ s := by
    rw [Nat.div_lt_iff_lt_mul (Nat.two_pow_pos _), Nat.mul_comm, e64]; exact hlo
  have h2 : (hi + 1) * 2 ^ s ≤ y * 2 ^ s := Nat.mul_le_mul_right _ hy
  rw [Nat.add_mul] at h2
  have h3 : lo * 2 ^ s / 18446744073709551616 = lo / 2 ^ (64 - s) := by rw [← e64, Nat.mul_div_mul_right _ _ hp]
  have h4 := Nat.div_add_mod (lo * 2 ^ s) 18446744073709551616
  rw [h3] at h4
  refine ⟨h1, by omega, ?_, by omega⟩
  rw [Nat.add_mul, Nat.add_mul (hi * _), Nat.mul_right_comm]
  omega
end Go.Cal
