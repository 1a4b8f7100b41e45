/- Plain numbers: one digit of a quotient, guessed and mended. -/
import Derived.Test.YtjhdkdfiadlmcaaGreatDoorNum
namespace Go.Cal
/-- Only a window of n + 1 words from place k on may have turned. -/
structure WinEq (L0 L : List Nat) (k n : Nat) : Prop where
  len : L.length = L0.length
  low : L.take k = L0.take k
  high : L.drop (k + n + 1) = L0.drop (k + n + 1)
theorem WinEq.refl (L : List Nat) (k n : Nat) : WinEq L L k n := ⟨rfl, rfl, rfl⟩
theorem WinEq.set {L0 L : List Nat} {k n : Nat} (h : WinEq L0 L k n) (i x : Nat) (hi : i ≤ n) : WinEq L0 (L.set (k + i) x) k n :=
  ⟨by rw [List.length_set, h.len], by rw [take_set_le (by omega), h.low], by rw [List.drop_set_of_lt (by omega), h.high]⟩
theorem drop_set_in (L : List Nat) (k i x : Nat) : (L.set (k + i) x).drop k = (L.drop k).set i x := by
  rw [List.drop_set, if_neg (by omega), show k + i - k = i by omega]
theorem getD_drop' (xs : List Nat) (q i : Nat) : (xs.drop q).getD i 0 = xs.getD (q + i) 0 := by
  simp [List.getD_eq_getElem?_getD, List.getElem?_drop]
/-- At the head of a round of the subtraction: i words are done. -/
structure DSub (b : Nat) (D0 D ys : List Nat) (G i bo ca : Nat) : Prop where
  dig : Dig b D
  bo1 : bo ≤ 1
  ca1 : ca < b
  same : ∀ j, i ≤ j → D.getD j 0 = D0.getD j 0
  val : vl b (D.take i) + G * vl b (ys.take i) = vl b (D0.take i) + b ^ i * (bo + ca)
  carry : b ^ i * ca ≤ G * vl b (ys.take i)
theorem DSub.step {b : Nat} {D0 D ys : List Nat} {G i bo ca : Nat} (h : DSub b D0 D ys G i bo ca) (hi : i < D.length) {y u s bo' lo ca' : Nat} (hy : ys.getD i 0 = y) (hu : D.getD i 0 = u) (hs : s < b) (hbo : bo' ≤ 1) (hca : ca' < b)
    (h1 : s + lo + bo = u + b * bo') (h2 : G * y + ca = lo + b * ca') : DSub b D0 (D.set i s) ys G (i + 1) bo' ca' := by
  refine ⟨dig_set h.dig _ hs, hbo, hca, fun j hj => by rw [Go.Cal.getD_set_ne (by omega)]; exact h.same j (by omega), ?_, ?_⟩
  rotate_left
  · rw [vl_getD, hy, Nat.mul_add, Nat.pow_succ, Nat.mul_assoc]
    have h3 := h.carry
    have h5 : b ^ i * (G * y + ca) = b ^ i * (lo + b * ca') := by rw [h2]
    have h6 : G * (b ^ i * y) = b ^ i * (G * y) := by rw [← Nat.mul_assoc, Nat.mul_comm G, Nat.mul_assoc]
    rw [h6]
    simp only [Nat.mul_add] at h5 ⊢
    omega
  have hu0 : D0.getD i 0 = u := by rw [← h.same i (Nat.le_refl _), hu]
  rw [vl_take_set hi, vl_getD, vl_getD, hy, hu0, Nat.mul_add, Nat.pow_succ, Nat.mul_assoc]
  have h3 := h.val
  have h4 : b ^ i * (s + lo + bo) = b ^ i * (u + b * bo') := by rw [h1]
  have h5 : b ^ i * (G * y + ca) = b ^ i * (lo + b * ca') := by rw [h2]
  have h6 : G * (b ^ i * y) = b ^ i * (G * y) := by rw [← Nat.mul_assoc, Nat.mul_comm G, Nat.mul_assoc]
  rw [h6]
  simp only [Nat.mul_add] at h3 h4 h5 ⊢
  omega
/-- At the head of a round of the mending sum. -/
structure DAdd (b : Nat) (D0 D ys : List Nat) (i c : Nat) : Prop where
  dig : Dig b D
  c1 : c ≤ 1
  same : ∀ j, i ≤ j → D.getD j 0 = D0.getD j 0
  val : vl b (D.take i) + b ^ i * c = vl b (D0.take i) + vl b (ys.take i)
theorem DAdd.step {b : Nat} {D0 D ys : List Nat} {i c : Nat} (h : DAdd b D0 D ys i c) (hi : i < D.length) {y u s c' : Nat} (hy : ys.getD i 0 = y) (hu : D.getD i 0 = u) (hs : s < b) (hc : c' ≤ 1)
    (h1 : u + y + c = s + b * c') : DAdd b D0 (D.set i s) ys (i + 1) c' := by
  refine ⟨dig_set h.dig _ hs, hc, fun j hj => by rw [Go.Cal.getD_set_ne (by omega)]; exact h.same j (by omega), ?_⟩
  have hu0 : D0.getD i 0 = u := by rw [← h.same i (Nat.le_refl _), hu]
  rw [vl_take_set hi, vl_getD, vl_getD, hy, hu0, Nat.pow_succ]
  exact sum_step h.val h1
/-- A guess that is not too small. -/
theorem guess_top {b X V G vm u1 u0 : Nat} {P : Nat} (hv : vm * P ≤ V) (hX : X < (u1 * b + u0 + 1) * P) (hG : G = (u1 * b + u0) / vm) (hvm : 0 < vm) : X < (G + 1) * V := by
  have h1 : u1 * b + u0 < (G + 1) * vm := by
    rw [hG, Nat.mul_comm _ vm]; exact Nat.lt_mul_div_succ _ hvm
  have h2 : (u1 * b + u0 + 1) * P ≤ (G + 1) * vm * P := Nat.mul_le_mul_right _ h1
  have h3 : (G + 1) * (vm * P) ≤ (G + 1) * V := Nat.mul_le_mul_left _ hv
  rw [← Nat.mul_assoc] at h3
  omega
theorem window_top {b : Nat} {D : List Nat} {n : Nat} (d : Dig b D) (h : n + 2 ≤ D.length) : vl b (D.take (n + 2)) < (D.getD (n + 1) 0 * b + D.getD n 0 + 1) * b ^ n := by
  rw [vl_getD, vl_getD, Nat.pow_succ]
  have h1 := vl_lt (dig_take d n)
  rw [List.length_take, Nat.min_eq_left (by omega)] at h1
  have e : (D.getD (n + 1) 0 * b + D.getD n 0 + 1) * b ^ n = b ^ n * b * D.getD (n + 1) 0 + b ^ n * D.getD n 0 + b ^ n := by
    rw [Nat.add_mul, Nat.add_mul, Nat.one_mul, Nat.mul_comm (D.getD n 0), Nat.mul_comm (D.getD (n + 1) 0 * b), Nat.mul_comm (D.getD (n + 1) 0) b, Nat.mul_assoc]
  rw [e]
  omega
theorem divisor_low {b : Nat} {ys : List Nat} {n : Nat} (h : n + 1 = ys.length) : ys.getD n 0 * b ^ n ≤ vl b ys := by
  have := vl_getD (b := b) ys n
  rw [vl_take_all ys _ (by omega)] at this
  rw [this, Nat.mul_comm]
  omega
/-- At the head of a round of the mending: the guess, and whether it is too great. -/
structure DMend (b X V P S G bo : Nat) : Prop where
  bo1 : bo ≤ 1
  val : S + G * V = X + P * bo
  top : X < (G + 1) * V
  lt : S < P
theorem DMend.done {b X V P S G : Nat} (h : DMend b X V P S G 0) : G = X / V ∧ S = X % V := by
  have h1 := h.val
  have h2 := h.top
  rw [Nat.mul_zero, Nat.add_zero] at h1
  rw [Nat.add_mul] at h2
  have hV : S < V := by omega
  rw [← h1, Nat.add_comm, Nat.mul_comm]
  have hp : 0 < V := by omega
  rw [Nat.mul_add_div hp, Nat.mul_add_mod, Nat.div_eq_of_lt hV, Nat.mod_eq_of_lt hV]
  exact ⟨rfl, rfl⟩
theorem DMend.step {b X V P S G S' c : Nat} (h : DMend b X V P S G 1) (hs : S' + P * c = S + V) (hlt : S' < P) (hc : c ≤ 1) : 0 < G ∧ DMend b X V P S' (G - 1) (1 - c) := by
  have h1 := h.val
  have h2 := h.top
  have h3 := h.lt
  have hG : 0 < G := by
    rcases Nat.eq_zero_or_pos G with h0 | h0
    · subst h0; omega
    · exact h0
  obtain ⟨g, rfl⟩ : ∃ g, G = g + 1 := ⟨G - 1, by omega⟩
  rw [Nat.add_mul] at h1 h2
  refine ⟨hG, by omega, ?_, ?_, hlt⟩
  · rw [Nat.add_sub_cancel]
    have : c = 0 ∨ c = 1 := by omega
    rcases this with rfl | rfl <;> omega
  · rw [Nat.add_sub_cancel, Nat.add_mul]; omega
/-- The subtraction is through. -/
theorem DSub.done {b : Nat} {D0 D ys : List Nat} {G n bo ca : Nat} (h : DSub b D0 D ys G (n + 1) bo ca) (hyl : ys.length = n) (hG : G < b) (hl : n + 1 ≤ D.length) (dy : Dig b ys)
    (ht : vl b (D0.take (n + 1)) < (G + 1) * vl b ys) : DMend b (vl b (D0.take (n + 1))) (vl b ys) (b ^ (n + 1)) (vl b (D.take (n + 1))) G bo := by
  have h1 := h.val
  have h2 := h.carry
  rw [vl_take_all ys _ (by omega)] at h1 h2
  have h3 := vl_lt (dig_take h.dig (n + 1))
  rw [List.length_take, Nat.min_eq_left hl] at h3
  have h4 := vl_lt dy
  rw [hyl] at h4
  have hb : 0 < b := by omega
  have hP : 0 < b ^ n := Nat.pow_pos hb
  have h5 : G * vl b ys < b ^ (n + 1) := by
    rw [Nat.pow_succ, Nat.mul_comm (b ^ n)]
    exact Nat.lt_of_le_of_lt (Nat.mul_le_mul_left _ (Nat.le_of_lt h4)) (Nat.mul_lt_mul_of_pos_right hG hP)
  have hc : ca = 0 := by
    rcases Nat.eq_zero_or_pos ca with h0 | h0
    · exact h0
    · have := Nat.mul_le_mul_left (b ^ (n + 1)) h0
      omega
  subst hc
  exact ⟨h.bo1, by simpa using h1, ht, h3⟩
theorem DAdd.done {b : Nat} {D0 D ys : List Nat} {n c : Nat} (h : DAdd b D0 D ys (n + 1) c) (hyl : ys.length = n) (hl : n + 1 ≤ D.length) :
    vl b (D.take (n + 1)) + b ^ (n + 1) * c = vl b (D0.take (n + 1)) + vl b ys ∧ vl b (D.take (n + 1)) < b ^ (n + 1) := by
  have h1 := h.val
  rw [vl_take_all ys _ (by omega)] at h1
  have h3 := vl_lt (dig_take h.dig (n + 1))
  rw [List.length_take, Nat.min_eq_left hl] at h3
  exact ⟨h1, h3⟩
end Go.Cal
