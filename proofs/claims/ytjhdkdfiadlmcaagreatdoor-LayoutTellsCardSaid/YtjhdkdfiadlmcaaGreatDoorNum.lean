/- Plain numbers: lists of digits to a base, their values, sums, products, order. No program in sight. -/
namespace Go.Cal

/-- The value of digits to base b, the lowest first. -/
def vl (b : Nat) : List Nat → Nat
  | [] => 0
  | x :: xs => x + b * vl b xs

/-- All digits are below b. -/
def Dig (b : Nat) (xs : List Nat) : Prop := ∀ x ∈ xs, x < b

/-- The last digit is not 0. -/
def Top (xs : List Nat) : Prop := ∀ h : xs ≠ [], xs.getLast h ≠ 0

theorem vl_append (b : Nat) (xs ys : List Nat) : vl b (xs ++ ys) = vl b xs + b ^ xs.length * vl b ys := by
  induction xs with
  | nil => simp [vl]
  | cons x xs ih =>
    simp only [List.cons_append, vl, ih, List.length_cons, Nat.pow_succ, Nat.mul_add]
    rw [← Nat.mul_assoc, Nat.mul_comm b (b ^ xs.length)]
    omega

theorem vl_lt {b : Nat} {xs : List Nat} (h : Dig b xs) : vl b xs < b ^ xs.length := by
  induction xs with
  | nil => simp [vl]
  | cons x xs ih =>
    have hx : x < b := h x (by simp)
    have ih := ih fun y hy => h y (by simp [hy])
    simp only [vl, List.length_cons, Nat.pow_succ]
    have : b * (vl b xs + 1) ≤ b * b ^ xs.length := Nat.mul_le_mul_left b ih
    rw [Nat.mul_comm (b ^ xs.length) b]
    rw [Nat.mul_add] at this
    omega

theorem vl_zeros (b n : Nat) : vl b (List.replicate n 0) = 0 := by
  induction n with
  | zero => rfl
  | succ n ih => simp [List.replicate_succ, vl, ih]

theorem vl_pos {b : Nat} {xs : List Nat} (h : Top xs) (hn : xs ≠ []) : b ^ (xs.length - 1) ≤ vl b xs := by
  obtain ⟨ys, y, rfl⟩ : ∃ ys y, xs = ys ++ [y] := ⟨xs.dropLast, xs.getLast hn, (List.dropLast_concat_getLast hn).symm⟩
  have hy : y ≠ 0 := by have := h hn; simpa using this
  rw [vl_append]
  simp only [List.length_append, List.length_singleton, Nat.add_sub_cancel, vl, Nat.mul_zero, Nat.add_zero]
  have : b ^ ys.length * 1 ≤ b ^ ys.length * y := Nat.mul_le_mul_left _ (by omega)
  omega

theorem canon_unique {b : Nat} (hb : 0 < b) : ∀ {xs ys : List Nat}, Dig b xs → Dig b ys → Top xs → Top ys → vl b xs = vl b ys → xs = ys
  | [], [], _, _, _, _, _ => rfl
  | [], y :: ys, _, hy, _, ty, h => by
    have h1 := vl_pos (b := b) ty (by simp)
    have h2 := Nat.pow_pos (n := (y :: ys).length - 1) hb
    simp only [vl] at h h1
    omega
  | x :: xs, [], hx, _, tx, _, h => by
    have h1 := vl_pos (b := b) tx (by simp)
    have h2 := Nat.pow_pos (n := (x :: xs).length - 1) hb
    simp only [vl] at h h1
    omega
  | x :: xs, y :: ys, hx, hy, tx, ty, h => by
    simp only [vl] at h
    have h1 : x < b := hx x (by simp)
    have h2 : y < b := hy y (by simp)
    have e1 : x = y := by
      have := congrArg (· % b) h
      simpa [Nat.add_mul_mod_self_left, Nat.mod_eq_of_lt h1, Nat.mod_eq_of_lt h2] using this
    subst e1
    have e2 : vl b xs = vl b ys := Nat.eq_of_mul_eq_mul_left hb (by omega)
    have tx' : Top xs := fun hn => by have := tx (by simp); rwa [List.getLast_cons hn] at this
    have ty' : Top ys := fun hn => by have := ty (by simp); rwa [List.getLast_cons hn] at this
    rw [canon_unique hb (fun z hz => hx z (by simp [hz])) (fun z hz => hy z (by simp [hz])) tx' ty' e2]

theorem vl_lt_of_length {b : Nat} (hb : 0 < b) {xs ys : List Nat} (hx : Dig b xs) (ty : Top ys) (h : xs.length < ys.length) : vl b xs < vl b ys := by
  have h1 := vl_lt hx
  have h2 := vl_pos (b := b) ty (by intro e; subst e; simp at h)
  have h3 : b ^ xs.length ≤ b ^ (ys.length - 1) := Nat.pow_le_pow_right hb (by omega)
  omega

theorem vl_getD {b : Nat} (xs : List Nat) (k : Nat) : vl b (xs.take (k + 1)) = vl b (xs.take k) + b ^ k * xs.getD k 0 := by
  by_cases h : k < xs.length
  · rw [List.take_succ_eq_append_getElem h, vl_append]
    simp [vl, List.getD_eq_getElem?_getD, h, Nat.min_eq_left (Nat.le_of_lt h)]
  · rw [List.take_of_length_le (by omega), List.take_of_length_le (by omega)]
    simp [List.getD_eq_getElem?_getD, List.getElem?_eq_none (Nat.le_of_not_lt h)]

theorem vl_take_all {b : Nat} (xs : List Nat) (k : Nat) (h : xs.length ≤ k) : vl b (xs.take k) = vl b xs := by rw [List.take_of_length_le h]

theorem vl_drop {b : Nat} (xs : List Nat) (k : Nat) (h : k < xs.length) : vl b (xs.drop k) = xs.getD k 0 + b * vl b (xs.drop (k + 1)) := by
  rw [List.drop_eq_getElem_cons h]
  simp [vl, List.getD_eq_getElem?_getD, h]

theorem vl_split {b : Nat} (xs : List Nat) (k : Nat) (h : k ≤ xs.length) : vl b xs = vl b (xs.take k) + b ^ k * vl b (xs.drop k) := by
  conv => lhs; rw [← List.take_append_drop k xs]
  rw [vl_append, List.length_take, Nat.min_eq_left h]

/-- What is left of digits without noughts at the end. -/
theorem vl_trim {b : Nat} {xs : List Nat} {n : Nat} (h : ∀ j, n ≤ j → j < xs.length → xs.getD j 0 = 0) : vl b (xs.take n) = vl b xs := by
  by_cases hn : xs.length ≤ n
  · rw [List.take_of_length_le hn]
  · have hz : xs.drop n = List.replicate (xs.length - n) 0 := by
      apply List.ext_getElem
      · simp
      · intro i h1 h2
        simp at h1
        have := h (n + i) (by omega) (by omega)
        simp [List.getD_eq_getElem?_getD, show n + i < xs.length by omega] at this
        simp [this]
    rw [vl_split xs n (by omega), hz, vl_zeros, Nat.mul_zero, Nat.add_zero]

theorem top_take {xs : List Nat} {n : Nat} (hn : n ≤ xs.length) (h : n = 0 ∨ xs.getD (n - 1) 0 ≠ 0) : Top (xs.take n) := by
  intro hne
  rcases h with rfl | h
  · simp at hne
  · have hp : 0 < n := by
      rcases Nat.eq_zero_or_pos n with rfl | h
      · simp at hne
      · exact h
    rw [List.getLast_eq_getElem]
    simp only [List.length_take, Nat.min_eq_left hn, List.getElem_take]
    simpa [List.getD_eq_getElem?_getD, show n - 1 < xs.length by omega] using h

theorem dig_take {b : Nat} {xs : List Nat} (h : Dig b xs) (n : Nat) : Dig b (xs.take n) := fun x hx => h x (List.mem_of_mem_take hx)
theorem dig_drop {b : Nat} {xs : List Nat} (h : Dig b xs) (n : Nat) : Dig b (xs.drop n) := fun x hx => h x (List.mem_of_mem_drop hx)
theorem dig_append {b : Nat} {xs ys : List Nat} (h : Dig b xs) (k : Dig b ys) : Dig b (xs ++ ys) := fun x hx => by
  rcases List.mem_append.1 hx with h1 | h1
  · exact h x h1
  · exact k x h1
theorem dig_set {b : Nat} {xs : List Nat} (h : Dig b xs) (i : Nat) {x : Nat} (hx : x < b) : Dig b (xs.set i x) := fun y hy => by
  rcases List.mem_or_eq_of_mem_set hy with h1 | h1
  · exact h y h1
  · omega
theorem dig_getD {b : Nat} (hb : 0 < b) {xs : List Nat} (h : Dig b xs) (i : Nat) : xs.getD i 0 < b := by
  rw [List.getD_eq_getElem?_getD]
  by_cases hi : i < xs.length
  · simp [hi]; exact h _ (List.getElem_mem hi)
  · simp [List.getElem?_eq_none (Nat.le_of_not_lt hi), hb]
theorem dig_zeros {b : Nat} (hb : 0 < b) (n : Nat) : Dig b (List.replicate n 0) := fun x hx => by
  have := List.eq_of_mem_replicate hx; omega

theorem take_set_le {xs : List Nat} {k i x : Nat} (h : k ≤ i) : (xs.set i x).take k = xs.take k := by
  apply List.ext_getElem?
  intro j
  simp only [List.getElem?_take]
  split
  · rw [List.getElem?_set_ne (by omega)]
  · rfl
theorem take_set_succ {xs : List Nat} {k x : Nat} (h : k < xs.length) : (xs.set k x).take (k + 1) = xs.take k ++ [x] := by
  rw [List.take_succ_eq_append_getElem (by simpa using h), take_set_le (Nat.le_refl k)]
  simp
theorem vl_take_set {b : Nat} {xs : List Nat} {k x : Nat} (h : k < xs.length) : vl b ((xs.set k x).take (k + 1)) = vl b (xs.take k) + b ^ k * x := by
  rw [take_set_succ h, vl_append]
  simp [vl, Nat.min_eq_left (Nat.le_of_lt h)]
theorem getD_set_ne {xs : List Nat} {k i x : Nat} (h : k ≠ i) : (xs.set k x).getD i 0 = xs.getD i 0 := by
  simp [List.getD_eq_getElem?_getD, List.getElem?_set_ne h]
theorem getD_set_eq {xs : List Nat} {k x : Nat} (h : k < xs.length) : (xs.set k x).getD k 0 = x := by
  simp [List.getD_eq_getElem?_getD, h]

theorem vl_set {b : Nat} : ∀ (xs : List Nat) (k x : Nat), k < xs.length → vl b (xs.set k x) + b ^ k * xs.getD k 0 = vl b xs + b ^ k * x
  | [], k, x, h => by simp at h
  | y :: ys, 0, x, _ => by simp [vl]; omega
  | y :: ys, k + 1, x, h => by
    have ih := vl_set (b := b) ys k x (by simpa using h)
    have e : (y :: ys).getD (k + 1) 0 = ys.getD k 0 := by simp [List.getD_eq_getElem?_getD]
    simp only [List.set_cons_succ, vl, e, Nat.pow_succ]
    have := congrArg (b * ·) ih
    simp only [Nat.mul_add] at this
    rw [Nat.mul_comm (b ^ k) b, Nat.mul_assoc, Nat.mul_assoc]
    omega
/-- One step of a sum: k digits are summed, and a carry. -/
theorem sum_step {b X Y R P c x y s c' : Nat} (h : R + P * c = X + Y) (hs : x + y + c = s + b * c') : R + P * s + P * b * c' = (X + P * x) + (Y + P * y) := by
  have : P * (x + y + c) = P * (s + b * c') := by rw [hs]
  simp only [Nat.mul_add, ← Nat.mul_assoc] at this
  omega
/-- One step of a difference. -/
theorem diff_step {b X Y R P c x y s c' : Nat} (h : R + Y = X + P * c) (hs : s + y + c = x + b * c') : R + P * s + (Y + P * y) = X + P * x + P * b * c' := by
  have : P * (s + y + c) = P * (x + b * c') := by rw [hs]
  simp only [Nat.mul_add, ← Nat.mul_assoc] at this
  omega
theorem vl_lex {b : Nat} {xs ys : List Nat} {m : Nat} (dx : Dig b xs) (hl : xs.length = ys.length) (hm : m < xs.length) (hd : xs.drop (m + 1) = ys.drop (m + 1)) (h : xs.getD m 0 < ys.getD m 0) : vl b xs < vl b ys := by
  have e1 := vl_split (b := b) xs m (by omega)
  have e2 := vl_split (b := b) ys m (by omega)
  rw [vl_drop xs m hm] at e1
  rw [vl_drop ys m (by omega), ← hd] at e2
  have h1 := vl_lt (dig_take dx m)
  rw [List.length_take, Nat.min_eq_left (Nat.le_of_lt hm)] at h1
  have h2 : b ^ m * (xs.getD m 0 + b * vl b (xs.drop (m + 1)) + 1) ≤ b ^ m * (ys.getD m 0 + b * vl b (xs.drop (m + 1))) := Nat.mul_le_mul_left _ (by omega)
  rw [Nat.mul_add] at h2
  omega
theorem drop_step {xs ys : List Nat} {m : Nat} (hl : xs.length = ys.length) (hm : m < xs.length) (hd : xs.drop (m + 1) = ys.drop (m + 1)) (h : xs.getD m 0 = ys.getD m 0) : xs.drop m = ys.drop m := by
  rw [List.drop_eq_getElem_cons hm, List.drop_eq_getElem_cons (by omega : m < ys.length), hd]
  simp [List.getD_eq_getElem?_getD, hm, show m < ys.length by omega] at h
  rw [h]
/-- -1, 0, 1. -/
def cmpV (a b : Int) : Int := if a < b then -1 else if b < a then 1 else 0
theorem cmpV_lt {a b : Int} (h : a < b) : cmpV a b = -1 := by unfold cmpV; rw [if_pos h]
theorem cmpV_gt {a b : Int} (h : b < a) : cmpV a b = 1 := by unfold cmpV; rw [if_neg (by omega), if_pos h]
theorem cmpV_eq {a b : Int} (h : a = b) : cmpV a b = 0 := by unfold cmpV; rw [if_neg (by omega), if_neg (by omega)]
theorem cmpV_cases (a b : Int) : (a < b ∧ cmpV a b = -1) ∨ (b < a ∧ cmpV a b = 1) ∨ (a = b ∧ cmpV a b = 0) := by
  rcases Int.lt_trichotomy a b with h | h | h
  · exact .inl ⟨h, cmpV_lt h⟩
  · exact .inr (.inr ⟨h, cmpV_eq h⟩)
  · exact .inr (.inl ⟨h, cmpV_gt h⟩)
end Go.Cal
