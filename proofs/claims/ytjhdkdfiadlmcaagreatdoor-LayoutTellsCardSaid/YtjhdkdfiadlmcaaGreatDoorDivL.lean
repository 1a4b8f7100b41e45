/- Plain numbers: the loop of long division, over digits that are each right. -/
import Derived.Test.YtjhdkdfiadlmcaaGreatDoorDig
namespace Go.Cal
/-- At the head of a round: j digits are left; the rows L (what is left) and Q (the digits). -/
structure DivRel (b : Nat) (ys : List Nat) (m q U : Nat) (L Q : List Nat) (j : Nat) : Prop where
  len : L.length = m + 1
  qlen : Q.length = q
  dig : Dig b L
  qdig : Dig b Q
  low : vl b (L.drop j) < vl b ys
  val : vl b L + vl b ys * (b ^ j * vl b (Q.drop j)) = U
theorem DivRel.win {b : Nat} {ys : List Nat} {m q U : Nat} {L Q : List Nat} {j : Nat} (h : DivRel b ys m q U L Q (j + 1)) (dy : Dig b ys) (hj : j + ys.length + 1 ≤ m + 1) :
    vl b (L.drop (j + ys.length + 1)) = 0 ∧ vl b (L.drop j) = vl b ((L.drop j).take (ys.length + 1)) ∧ vl b ((L.drop j).take (ys.length + 1)) < vl b ys * b := by
  have hlen := h.len
  have h1 := h.low
  have h2 := vl_lt dy
  have h3 := vl_split (b := b) (L.drop (j + 1)) ys.length (by simp; omega)
  rw [List.drop_drop, show j + 1 + ys.length = j + ys.length + 1 by omega] at h3
  have hz : vl b (L.drop (j + ys.length + 1)) = 0 := by
    rcases Nat.eq_zero_or_pos (vl b (L.drop (j + ys.length + 1))) with h0 | h0
    · exact h0
    · have := Nat.mul_le_mul_left (b ^ ys.length) h0
      omega
  have h4 := vl_split (b := b) (L.drop j) (ys.length + 1) (by simp; omega)
  rw [List.drop_drop, show j + (ys.length + 1) = j + ys.length + 1 by omega, hz, Nat.mul_zero, Nat.add_zero] at h4
  refine ⟨hz, h4, ?_⟩
  rw [← h4, vl_drop L j (by omega)]
  have h5 : L.getD j 0 < b := by
    rcases Nat.eq_zero_or_pos b with h0 | h0
    · have hm : L.getD j 0 ∈ L := by
        rw [List.getD_eq_getElem?_getD, List.getElem?_eq_getElem (by omega)]
        exact List.getElem_mem _
      exact h.dig _ hm
    · exact dig_getD h0 h.dig j
  have h6 : b * (vl b (L.drop (j + 1)) + 1) ≤ b * vl b ys := Nat.mul_le_mul_left _ h1
  rw [Nat.mul_comm (vl b ys)]
  rw [Nat.mul_add] at h6
  omega
theorem DivRel.step {b : Nat} {ys : List Nat} {m q U : Nat} {L L' Q : List Nat} {j : Nat} (h : DivRel b ys m q U L Q (j + 1)) (dy : Dig b ys) (hj : j + ys.length + 1 ≤ m + 1) (hq : j < q) (hV : 0 < vl b ys)
    (hW : WinEq L L' j ys.length) (dL : Dig b L') (hs : vl b ((L'.drop j).take (ys.length + 1)) = vl b ((L.drop j).take (ys.length + 1)) % vl b ys) :
    DivRel b ys m q U L' (Q.set j (vl b ((L.drop j).take (ys.length + 1)) / vl b ys)) j := by
  obtain ⟨hz, hX, hlt⟩ := h.win dy hj
  have hlen := h.len
  have hlen' := hW.len
  have hql := h.qlen
  have h4 := vl_split (b := b) (L'.drop j) (ys.length + 1) (by simp; omega)
  rw [List.drop_drop, show j + (ys.length + 1) = j + ys.length + 1 by omega, hW.high, hz, Nat.mul_zero, Nat.add_zero, hs] at h4
  have hd : vl b ((L.drop j).take (ys.length + 1)) / vl b ys < b := by
    rw [Nat.div_lt_iff_lt_mul hV, Nat.mul_comm]; exact hlt
  refine ⟨by omega, by rw [List.length_set, hql], dL, dig_set h.qdig _ hd, by rw [h4]; exact Nat.mod_lt _ hV, ?_⟩
  have h5 := vl_split (b := b) L j (by omega)
  have h6 := vl_split (b := b) L' j (by omega)
  rw [hW.low, h4] at h6
  have h7 := h.val
  rw [vl_drop _ j (by rw [List.length_set]; omega), getD_set_eq (by omega), List.drop_set_of_lt (by omega), h6]
  rw [h5, hX] at h7
  obtain ⟨X, hXe⟩ : ∃ X, vl b ((L.drop j).take (ys.length + 1)) = X := ⟨_, rfl⟩
  obtain ⟨V, hVe⟩ : ∃ V, vl b ys = V := ⟨_, rfl⟩
  obtain ⟨T, hT⟩ : ∃ T, vl b (Q.drop (j + 1)) = T := ⟨_, rfl⟩
  rw [hXe, hVe, hT] at h7 ⊢
  rw [← h7]
  have h8 : V * (b ^ j * (X / V + b * T)) = b ^ j * (V * (X / V)) + V * (b ^ (j + 1) * T) := by
    rw [Nat.pow_succ, Nat.mul_add, Nat.mul_add, Nat.mul_left_comm, Nat.mul_assoc (b ^ j)]
  have h9 : b ^ j * X = b ^ j * (X % V) + b ^ j * (V * (X / V)) := by
    rw [← Nat.mul_add, Nat.mod_add_div]
  rw [h8, h9]
  omega
theorem DivRel.done {b : Nat} {ys : List Nat} {m q U : Nat} {L Q : List Nat} (h : DivRel b ys m q U L Q 0) : vl b Q = U / vl b ys ∧ vl b L = U % vl b ys := by
  have h1 := h.val
  have h2 := h.low
  rw [Nat.pow_zero, Nat.one_mul, List.drop_zero] at h1
  rw [List.drop_zero] at h2
  have hV : 0 < vl b ys := by omega
  rw [← h1, Nat.add_comm, Nat.mul_add_div hV, Nat.mul_add_mod, Nat.div_eq_of_lt h2, Nat.mod_eq_of_lt h2]
  exact ⟨rfl, rfl⟩
theorem DivRel.start {b : Nat} (hb : 0 < b) {ys zs : List Nat} {q : Nat} (dz : Dig b zs) (ty : Top ys) (h0 : ys ≠ []) (hq : q + ys.length = zs.length + 1) :
    DivRel b ys zs.length q (vl b zs) (zs ++ [0]) (List.replicate q 0) q := by
  have hp := vl_pos (b := b) ty h0
  have hl : 0 < ys.length := List.length_pos_iff.2 h0
  have hv : vl b (zs ++ [0]) = vl b zs := by rw [vl_append]; simp [vl]
  refine ⟨by simp, by simp, dig_append dz (fun x hx => by simp at hx; omega), dig_zeros hb _, ?_, by rw [hv]; simp [vl]⟩
  rw [List.drop_append_of_le_length (by omega), vl_append]
  have h1 := vl_lt (dig_drop dz q)
  rw [List.length_drop, show zs.length - q = ys.length - 1 by omega] at h1
  simp only [vl, Nat.mul_zero, Nat.add_zero]
  omega
/-- What was shifted on both sides. -/
theorem shifted_div (X Y s : Nat) : X * 2 ^ s / (Y * 2 ^ s) = X / Y ∧ X * 2 ^ s % (Y * 2 ^ s) / 2 ^ s = X % Y := by
  have hp : 0 < 2 ^ s := Nat.two_pow_pos s
  refine ⟨Nat.mul_div_mul_right _ _ hp, ?_⟩
  rw [Nat.mul_mod_mul_right, Nat.mul_div_cancel _ hp]
end Go.Cal
