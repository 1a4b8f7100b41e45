/- Plain numbers: lists of digits to a base, their values, sums, products, order. No program in sight. -/
/- Plain numbers: a word out of two by one (the schoolbook digit, guessed and mended). No program in sight. -/
/- Plain numbers: one digit of a quotient, guessed and mended. -/
/- Plain numbers: the loop of long division, over digits that are each right. -/
/- Plain: the magnitudes of posits, as numbers, rise with their keys. Conditions: none. -/
/- Plain: a posit's run of alike bits, as the code finds it. Conditions: none. -/
/- Plain: the magnitudes of the forms that are no posits, as numbers; all forms' magnitudes and the boundaries between them rise. Conditions: none. -/
namespace Go.Cal

/-- The value of digits to base b, the lowest first. -/
def vl (b : Nat) : List Nat → Nat
  | [] => 0
  | x :: xs => x + b * vl b xs

/-- All digits are below b. -/
def Dig (b : Nat) (xs : List Nat) : Prop := ∀ x ∈ xs, x < b

/-- The last digit is not 0. -/
def Top (xs : List Nat) : Prop := ∀ h : xs ≠ [], xs.getLast h ≠ 0

theorem vl_append (b : Nat) (xs ys : List Nat) : vl b (xs ++ ys) = vl b xs + b ^ xs.length * vl b ys := by
  induction xs with
  | nil => simp [vl]
  | cons x xs ih =>
    simp only [List.cons_append, vl, ih, List.length_cons, Nat.pow_succ, Nat.mul_add]
    rw [← Nat.mul_assoc, Nat.mul_comm b (b ^ xs.length)]
    omega

theorem vl_lt {b : Nat} {xs : List Nat} (h : Dig b xs) : vl b xs < b ^ xs.length := by
  induction xs with
  | nil => simp [vl]
  | cons x xs ih =>
    have hx : x < b := h x (by simp)
    have ih := ih fun y hy => h y (by simp [hy])
    simp only [vl, List.length_cons, Nat.pow_succ]
    have : b * (vl b xs + 1) ≤ b * b ^ xs.length := Nat.mul_le_mul_left b ih
    rw [Nat.mul_comm (b ^ xs.length) b]
    rw [Nat.mul_add] at this
    omega

theorem vl_zeros (b n : Nat) : vl b (List.replicate n 0) = 0 := by
  induction n with
  | zero => rfl
  | succ n ih => simp [List.replicate_succ, vl, ih]

theorem vl_pos {b : Nat} {xs : List Nat} (h : Top xs) (hn : xs ≠ []) : b ^ (xs.length - 1) ≤ vl b xs := by
  obtain ⟨ys, y, rfl⟩ : ∃ ys y, xs = ys ++ [y] := ⟨xs.dropLast, xs.getLast hn, (List.dropLast_concat_getLast hn).symm⟩
  have hy : y ≠ 0 := by have := h hn; simpa using this
  rw [vl_append]
  simp only [List.length_append, List.length_singleton, Nat.add_sub_cancel, vl, Nat.mul_zero, Nat.add_zero]
  have : b ^ ys.length * 1 ≤ b ^ ys.length * y := Nat.mul_le_mul_left _ (by omega)
  omega

theorem vl_lt_of_length {b : Nat} (hb : 0 < b) {xs ys : List Nat} (hx : Dig b xs) (ty : Top ys) (h : xs.length < ys.length) : vl b xs < vl b ys := by
  have h1 := vl_lt hx
  have h2 := vl_pos (b := b) ty (by intro e; subst e; simp at h)
  have h3 : b ^ xs.length ≤ b ^ (ys.length - 1) := Nat.pow_le_pow_right hb (by omega)
  omega

theorem vl_getD {b : Nat} (xs : List Nat) (k : Nat) : vl b (xs.take (k + 1)) = vl b (xs.take k) + b ^ k * xs.getD k 0 := by
  by_cases h : k < xs.length
  · rw [List.take_succ_eq_append_getElem h, vl_append]
    simp [vl, List.getD_eq_getElem?_getD, h, Nat.min_eq_left (Nat.le_of_lt h)]
  · rw [List.take_of_length_le (by omega), List.take_of_length_le (by omega)]
    simp [List.getD_eq_getElem?_getD, List.getElem?_eq_none (Nat.le_of_not_lt h)]

theorem vl_take_all {b : Nat} (xs : List Nat) (k : Nat) (h : xs.length ≤ k) : vl b (xs.take k) = vl b xs := by rw [List.take_of_length_le h]

theorem vl_drop {b : Nat} (xs : List Nat) (k : Nat) (h : k < xs.length) : vl b (xs.drop k) = xs.getD k 0 + b * vl b (xs.drop (k + 1)) := by
  rw [List.drop_eq_getElem_cons h]
  simp [vl, List.getD_eq_getElem?_getD, h]

theorem vl_split {b : Nat} (xs : List Nat) (k : Nat) (h : k ≤ xs.length) : vl b xs = vl b (xs.take k) + b ^ k * vl b (xs.drop k) := by
  conv => lhs; rw [← List.take_append_drop k xs]
  rw [vl_append, List.length_take, Nat.min_eq_left h]

/-- What is left of digits without noughts at the end. -/
theorem vl_trim {b : Nat} {xs : List Nat} {n : Nat} (h : ∀ j, n ≤ j → j < xs.length → xs.getD j 0 = 0) : vl b (xs.take n) = vl b xs := by
  by_cases hn : xs.length ≤ n
  · rw [List.take_of_length_le hn]
  · have hz : xs.drop n = List.replicate (xs.length - n) 0 := by
      apply List.ext_getElem
      · simp
      · intro i h1 h2
        simp at h1
        have := h (n + i) (by omega) (by omega)
        simp [List.getD_eq_getElem?_getD, show n + i < xs.length by omega] at this
        simp [this]
    rw [vl_split xs n (by omega), hz, vl_zeros, Nat.mul_zero, Nat.add_zero]

theorem top_take {xs : List Nat} {n : Nat} (hn : n ≤ xs.length) (h : n = 0 ∨ xs.getD (n - 1) 0 ≠ 0) : Top (xs.take n) := by
  intro hne
  rcases h with rfl | h
  · simp at hne
  · have hp : 0 < n := by
      rcases Nat.eq_zero_or_pos n with rfl | h
      · simp at hne
      · exact h
    rw [List.getLast_eq_getElem]
    simp only [List.length_take, Nat.min_eq_left hn, List.getElem_take]
    simpa [List.getD_eq_getElem?_getD, show n - 1 < xs.length by omega] using h

theorem dig_take {b : Nat} {xs : List Nat} (h : Dig b xs) (n : Nat) : Dig b (xs.take n) := fun x hx => h x (List.mem_of_mem_take hx)
theorem dig_drop {b : Nat} {xs : List Nat} (h : Dig b xs) (n : Nat) : Dig b (xs.drop n) := fun x hx => h x (List.mem_of_mem_drop hx)
theorem dig_append {b : Nat} {xs ys : List Nat} (h : Dig b xs) (k : Dig b ys) : Dig b (xs ++ ys) := fun x hx => by
  rcases List.mem_append.1 hx with h1 | h1
  · exact h x h1
  · exact k x h1
theorem dig_set {b : Nat} {xs : List Nat} (h : Dig b xs) (i : Nat) {x : Nat} (hx : x < b) : Dig b (xs.set i x) := fun y hy => by
  rcases List.mem_or_eq_of_mem_set hy with h1 | h1
  · exact h y h1
  · omega
theorem dig_getD {b : Nat} (hb : 0 < b) {xs : List Nat} (h : Dig b xs) (i : Nat) : xs.getD i 0 < b := by
  rw [List.getD_eq_getElem?_getD]
  by_cases hi : i < xs.length
  · simp [hi]; exact h _ (List.getElem_mem hi)
  · simp [List.getElem?_eq_none (Nat.le_of_not_lt hi), hb]
theorem dig_zeros {b : Nat} (hb : 0 < b) (n : Nat) : Dig b (List.replicate n 0) := fun x hx => by
  have := List.eq_of_mem_replicate hx; omega

theorem take_set_le {xs : List Nat} {k i x : Nat} (h : k ≤ i) : (xs.set i x).take k = xs.take k := by
  apply List.ext_getElem?
  intro j
  simp only [List.getElem?_take]
  split
  · rw [List.getElem?_set_ne (by omega)]
  · rfl
theorem take_set_succ {xs : List Nat} {k x : Nat} (h : k < xs.length) : (xs.set k x).take (k + 1) = xs.take k ++ [x] := by
  rw [List.take_succ_eq_append_getElem (by simpa using h), take_set_le (Nat.le_refl k)]
  simp
theorem vl_take_set {b : Nat} {xs : List Nat} {k x : Nat} (h : k < xs.length) : vl b ((xs.set k x).take (k + 1)) = vl b (xs.take k) + b ^ k * x := by
  rw [take_set_succ h, vl_append]
  simp [vl, Nat.min_eq_left (Nat.le_of_lt h)]
theorem getD_set_ne {xs : List Nat} {k i x : Nat} (h : k ≠ i) : (xs.set k x).getD i 0 = xs.getD i 0 := by
  simp [List.getD_eq_getElem?_getD, List.getElem?_set_ne h]
theorem getD_set_eq {xs : List Nat} {k x : Nat} (h : k < xs.length) : (xs.set k x).getD k 0 = x := by
  simp [List.getD_eq_getElem?_getD, h]

theorem vl_set {b : Nat} : ∀ (xs : List Nat) (k x : Nat), k < xs.length → vl b (xs.set k x) + b ^ k * xs.getD k 0 = vl b xs + b ^ k * x
  | [], k, x, h => by simp at h
  | y :: ys, 0, x, _ => by simp [vl]; omega
  | y :: ys, k + 1, x, h => by
    have ih := vl_set (b := b) ys k x (by simpa using h)
    have e : (y :: ys).getD (k + 1) 0 = ys.getD k 0 := by simp [List.getD_eq_getElem?_getD]
    simp only [List.set_cons_succ, vl, e, Nat.pow_succ]
    have := congrArg (b * ·) ih
    simp only [Nat.mul_add] at this
    rw [Nat.mul_comm (b ^ k) b, Nat.mul_assoc, Nat.mul_assoc]
    omega
/-- One step of a sum: k digits are summed, and a carry. -/
theorem sum_step {b X Y R P c x y s c' : Nat} (h : R + P * c = X + Y) (hs : x + y + c = s + b * c') : R + P * s + P * b * c' = (X + P * x) + (Y + P * y) := by
  have : P * (x + y + c) = P * (s + b * c') := by rw [hs]
  simp only [Nat.mul_add, ← Nat.mul_assoc] at this
  omega
/-- One step of a difference. -/
theorem diff_step {b X Y R P c x y s c' : Nat} (h : R + Y = X + P * c) (hs : s + y + c = x + b * c') : R + P * s + (Y + P * y) = X + P * x + P * b * c' := by
  have : P * (s + y + c) = P * (x + b * c') := by rw [hs]
  simp only [Nat.mul_add, ← Nat.mul_assoc] at this
  omega
theorem vl_lex {b : Nat} {xs ys : List Nat} {m : Nat} (dx : Dig b xs) (hl : xs.length = ys.length) (hm : m < xs.length) (hd : xs.drop (m + 1) = ys.drop (m + 1)) (h : xs.getD m 0 < ys.getD m 0) : vl b xs < vl b ys := by
  have e1 := vl_split (b := b) xs m (by omega)
  have e2 := vl_split (b := b) ys m (by omega)
  rw [vl_drop xs m hm] at e1
  rw [vl_drop ys m (by omega), ← hd] at e2
  have h1 := vl_lt (dig_take dx m)
  rw [List.length_take, Nat.min_eq_left (Nat.le_of_lt hm)] at h1
  have h2 : b ^ m * (xs.getD m 0 + b * vl b (xs.drop (m + 1)) + 1) ≤ b ^ m * (ys.getD m 0 + b * vl b (xs.drop (m + 1))) := Nat.mul_le_mul_left _ (by omega)
  rw [Nat.mul_add] at h2
  omega
theorem drop_step {xs ys : List Nat} {m : Nat} (hl : xs.length = ys.length) (hm : m < xs.length) (hd : xs.drop (m + 1) = ys.drop (m + 1)) (h : xs.getD m 0 = ys.getD m 0) : xs.drop m = ys.drop m := by
  rw [List.drop_eq_getElem_cons hm, List.drop_eq_getElem_cons (by omega : m < ys.length), hd]
  simp [List.getD_eq_getElem?_getD, hm, show m < ys.length by omega] at h
  rw [h]
/-- -1, 0, 1. -/
def cmpV (a b : Int) : Int := if a < b then -1 else if b < a then 1 else 0
theorem cmpV_lt {a b : Int} (h : a < b) : cmpV a b = -1 := by unfold cmpV; rw [if_pos h]
theorem cmpV_gt {a b : Int} (h : b < a) : cmpV a b = 1 := by unfold cmpV; rw [if_neg (by omega), if_pos h]
theorem cmpV_eq {a b : Int} (h : a = b) : cmpV a b = 0 := by unfold cmpV; rw [if_neg (by omega), if_neg (by omega)]
theorem cmpV_cases (a b : Int) : (a < b ∧ cmpV a b = -1) ∨ (b < a ∧ cmpV a b = 1) ∨ (a = b ∧ cmpV a b = 0) := by
  rcases Int.lt_trichotomy a b with h | h | h
  · exact .inl ⟨h, cmpV_lt h⟩
  · exact .inr (.inr ⟨h, cmpV_eq h⟩)
  · exact .inr (.inl ⟨h, cmpV_gt h⟩)
end Go.Cal
namespace Go.Cal
/-- A guessed digit: never too small. -/
structure QRel (y1 y0 u n qh rh : Nat) : Prop where
  sum : qh * y1 + rh = u
  big : u * 4294967296 + n < (qh + 1) * (y1 * 4294967296 + y0)
  top : qh ≤ 4294967297
  left : rh < 4294967296
theorem QRel.start {y1 y0 u n : Nat} (h1 : 2147483648 ≤ y1) (h1' : y1 < 4294967296) (h0 : y0 < 4294967296) (hn : n < 4294967296) (hu : u < y1 * 4294967296 + y0) : QRel y1 y0 u n (u / y1) (u - u / y1 * y1) := by
  have hp : 0 < y1 := by omega
  have hd := Nat.div_add_mod u y1
  have hm := Nat.mod_lt u hp
  rw [Nat.mul_comm] at hd
  refine ⟨by omega, ?_, ?_, by omega⟩
  · have : (u + 1) * 4294967296 ≤ (u / y1 + 1) * y1 * 4294967296 := Nat.mul_le_mul_right _ (by rw [Nat.add_mul]; omega)
    rw [Nat.mul_add, ← Nat.mul_assoc]
    have h3 : 0 ≤ (u / y1 + 1) * y0 := Nat.zero_le _
    omega
  · apply Nat.le_of_lt_succ
    rw [Nat.div_lt_iff_lt_mul hp]
    omega
/-- The guess is right. -/
theorem QRel.done {y1 y0 u n qh rh : Nat} (h : QRel y1 y0 u n qh rh) (hq : qh * y0 ≤ 4294967296 * rh + n) : qh = (u * 4294967296 + n) / (y1 * 4294967296 + y0) := by
  have h1 := h.sum
  have h2 := h.big
  have e : qh * (y1 * 4294967296 + y0) = qh * y1 * 4294967296 + qh * y0 := by rw [Nat.mul_add, ← Nat.mul_assoc]
  symm
  apply Nat.div_eq_of_lt_le
  · omega
  · exact h2
end Go.Cal
namespace Go.Cal
/-- Only a window of n + 1 words from place k on may have turned. -/
structure WinEq (L0 L : List Nat) (k n : Nat) : Prop where
  len : L.length = L0.length
  low : L.take k = L0.take k
  high : L.drop (k + n + 1) = L0.drop (k + n + 1)
theorem WinEq.refl (L : List Nat) (k n : Nat) : WinEq L L k n := ⟨rfl, rfl, rfl⟩
theorem WinEq.set {L0 L : List Nat} {k n : Nat} (h : WinEq L0 L k n) (i x : Nat) (hi : i ≤ n) : WinEq L0 (L.set (k + i) x) k n :=
  ⟨by rw [List.length_set, h.len], by rw [take_set_le (by omega), h.low], by rw [List.drop_set_of_lt (by omega), h.high]⟩
/-- At the head of a round of the subtraction: i words are done. -/
structure DSub (b : Nat) (D0 D ys : List Nat) (G i bo ca : Nat) : Prop where
  dig : Dig b D
  bo1 : bo ≤ 1
  ca1 : ca < b
  same : ∀ j, i ≤ j → D.getD j 0 = D0.getD j 0
  val : vl b (D.take i) + G * vl b (ys.take i) = vl b (D0.take i) + b ^ i * (bo + ca)
  carry : b ^ i * ca ≤ G * vl b (ys.take i)
theorem DSub.step {b : Nat} {D0 D ys : List Nat} {G i bo ca : Nat} (h : DSub b D0 D ys G i bo ca) (hi : i < D.length) {y u s bo' lo ca' : Nat} (hy : ys.getD i 0 = y) (hu : D.getD i 0 = u) (hs : s < b) (hbo : bo' ≤ 1) (hca : ca' < b)
    (h1 : s + lo + bo = u + b * bo') (h2 : G * y + ca = lo + b * ca') : DSub b D0 (D.set i s) ys G (i + 1) bo' ca' := by
  refine ⟨dig_set h.dig _ hs, hbo, hca, fun j hj => by rw [Go.Cal.getD_set_ne (by omega)]; exact h.same j (by omega), ?_, ?_⟩
  rotate_left
  · rw [vl_getD, hy, Nat.mul_add, Nat.pow_succ, Nat.mul_assoc]
    have h3 := h.carry
    have h5 : b ^ i * (G * y + ca) = b ^ i * (lo + b * ca') := by rw [h2]
    have h6 : G * (b ^ i * y) = b ^ i * (G * y) := by rw [← Nat.mul_assoc, Nat.mul_comm G, Nat.mul_assoc]
    rw [h6]
    simp only [Nat.mul_add] at h5 ⊢
    omega
  have hu0 : D0.getD i 0 = u := by rw [← h.same i (Nat.le_refl _), hu]
  rw [vl_take_set hi, vl_getD, vl_getD, hy, hu0, Nat.mul_add, Nat.pow_succ, Nat.mul_assoc]
  have h3 := h.val
  have h4 : b ^ i * (s + lo + bo) = b ^ i * (u + b * bo') := by rw [h1]
  have h5 : b ^ i * (G * y + ca) = b ^ i * (lo + b * ca') := by rw [h2]
  have h6 : G * (b ^ i * y) = b ^ i * (G * y) := by rw [← Nat.mul_assoc, Nat.mul_comm G, Nat.mul_assoc]
  rw [h6]
  simp only [Nat.mul_add] at h3 h4 h5 ⊢
  omega
/-- At the head of a round of the mending sum. -/
structure DAdd (b : Nat) (D0 D ys : List Nat) (i c : Nat) : Prop where
  dig : Dig b D
  c1 : c ≤ 1
  same : ∀ j, i ≤ j → D.getD j 0 = D0.getD j 0
  val : vl b (D.take i) + b ^ i * c = vl b (D0.take i) + vl b (ys.take i)
theorem DAdd.step {b : Nat} {D0 D ys : List Nat} {i c : Nat} (h : DAdd b D0 D ys i c) (hi : i < D.length) {y u s c' : Nat} (hy : ys.getD i 0 = y) (hu : D.getD i 0 = u) (hs : s < b) (hc : c' ≤ 1)
    (h1 : u + y + c = s + b * c') : DAdd b D0 (D.set i s) ys (i + 1) c' := by
  refine ⟨dig_set h.dig _ hs, hc, fun j hj => by rw [Go.Cal.getD_set_ne (by omega)]; exact h.same j (by omega), ?_⟩
  have hu0 : D0.getD i 0 = u := by rw [← h.same i (Nat.le_refl _), hu]
  rw [vl_take_set hi, vl_getD, vl_getD, hy, hu0, Nat.pow_succ]
  exact sum_step h.val h1
/-- At the head of a round of the mending: the guess, and whether it is too great. -/
structure DMend (b X V P S G bo : Nat) : Prop where
  bo1 : bo ≤ 1
  val : S + G * V = X + P * bo
  top : X < (G + 1) * V
  lt : S < P
theorem DMend.done {b X V P S G : Nat} (h : DMend b X V P S G 0) : G = X / V ∧ S = X % V := by
  have h1 := h.val
  have h2 := h.top
  rw [Nat.mul_zero, Nat.add_zero] at h1
  rw [Nat.add_mul] at h2
  have hV : S < V := by omega
  rw [← h1, Nat.add_comm, Nat.mul_comm]
  have hp : 0 < V := by omega
  rw [Nat.mul_add_div hp, Nat.mul_add_mod, Nat.div_eq_of_lt hV, Nat.mod_eq_of_lt hV]
  exact ⟨rfl, rfl⟩
theorem DMend.step {b X V P S G S' c : Nat} (h : DMend b X V P S G 1) (hs : S' + P * c = S + V) (hlt : S' < P) (hc : c ≤ 1) : 0 < G ∧ DMend b X V P S' (G - 1) (1 - c) := by
  have h1 := h.val
  have h2 := h.top
  have h3 := h.lt
  have hG : 0 < G := by
    rcases Nat.eq_zero_or_pos G with h0 | h0
    · subst h0; omega
    · exact h0
  obtain ⟨g, rfl⟩ : ∃ g, G = g + 1 := ⟨G - 1, by omega⟩
  rw [Nat.add_mul] at h1 h2
  refine ⟨hG, by omega, ?_, ?_, hlt⟩
  · rw [Nat.add_sub_cancel]
    have : c = 0 ∨ c = 1 := by omega
    rcases this with rfl | rfl <;> omega
  · rw [Nat.add_sub_cancel, Nat.add_mul]; omega
/-- The subtraction is through. -/
theorem DSub.done {b : Nat} {D0 D ys : List Nat} {G n bo ca : Nat} (h : DSub b D0 D ys G (n + 1) bo ca) (hyl : ys.length = n) (hG : G < b) (hl : n + 1 ≤ D.length) (dy : Dig b ys)
    (ht : vl b (D0.take (n + 1)) < (G + 1) * vl b ys) : DMend b (vl b (D0.take (n + 1))) (vl b ys) (b ^ (n + 1)) (vl b (D.take (n + 1))) G bo := by
  have h1 := h.val
  have h2 := h.carry
  rw [vl_take_all ys _ (by omega)] at h1 h2
  have h3 := vl_lt (dig_take h.dig (n + 1))
  rw [List.length_take, Nat.min_eq_left hl] at h3
  have h4 := vl_lt dy
  rw [hyl] at h4
  have hb : 0 < b := by omega
  have hP : 0 < b ^ n := Nat.pow_pos hb
  have h5 : G * vl b ys < b ^ (n + 1) := by
    rw [Nat.pow_succ, Nat.mul_comm (b ^ n)]
    exact Nat.lt_of_le_of_lt (Nat.mul_le_mul_left _ (Nat.le_of_lt h4)) (Nat.mul_lt_mul_of_pos_right hG hP)
  have hc : ca = 0 := by
    rcases Nat.eq_zero_or_pos ca with h0 | h0
    · exact h0
    · have := Nat.mul_le_mul_left (b ^ (n + 1)) h0
      omega
  subst hc
  exact ⟨h.bo1, by simpa using h1, ht, h3⟩
theorem DAdd.done {b : Nat} {D0 D ys : List Nat} {n c : Nat} (h : DAdd b D0 D ys (n + 1) c) (hyl : ys.length = n) (hl : n + 1 ≤ D.length) :
    vl b (D.take (n + 1)) + b ^ (n + 1) * c = vl b (D0.take (n + 1)) + vl b ys ∧ vl b (D.take (n + 1)) < b ^ (n + 1) := by
  have h1 := h.val
  rw [vl_take_all ys _ (by omega)] at h1
  have h3 := vl_lt (dig_take h.dig (n + 1))
  rw [List.length_take, Nat.min_eq_left hl] at h3
  exact ⟨h1, h3⟩
end Go.Cal
namespace Go.Cal
/-- At the head of a round: j digits are left; the rows L (what is left) and Q (the digits). -/
structure DivRel (b : Nat) (ys : List Nat) (m q U : Nat) (L Q : List Nat) (j : Nat) : Prop where
  len : L.length = m + 1
  qlen : Q.length = q
  dig : Dig b L
  qdig : Dig b Q
  low : vl b (L.drop j) < vl b ys
  val : vl b L + vl b ys * (b ^ j * vl b (Q.drop j)) = U
theorem DivRel.win {b : Nat} {ys : List Nat} {m q U : Nat} {L Q : List Nat} {j : Nat} (h : DivRel b ys m q U L Q (j + 1)) (dy : Dig b ys) (hj : j + ys.length + 1 ≤ m + 1) :
    vl b (L.drop (j + ys.length + 1)) = 0 ∧ vl b (L.drop j) = vl b ((L.drop j).take (ys.length + 1)) ∧ vl b ((L.drop j).take (ys.length + 1)) < vl b ys * b := by
  have hlen := h.len
  have h1 := h.low
  have h2 := vl_lt dy
  have h3 := vl_split (b := b) (L.drop (j + 1)) ys.length (by simp; omega)
  rw [List.drop_drop, show j + 1 + ys.length = j + ys.length + 1 by omega] at h3
  have hz : vl b (L.drop (j + ys.length + 1)) = 0 := by
    rcases Nat.eq_zero_or_pos (vl b (L.drop (j + ys.length + 1))) with h0 | h0
    · exact h0
    · have := Nat.mul_le_mul_left (b ^ ys.length) h0
      omega
  have h4 := vl_split (b := b) (L.drop j) (ys.length + 1) (by simp; omega)
  rw [List.drop_drop, show j + (ys.length + 1) = j + ys.length + 1 by omega, hz, Nat.mul_zero, Nat.add_zero] at h4
  refine ⟨hz, h4, ?_⟩
  rw [← h4, vl_drop L j (by omega)]
  have h5 : L.getD j 0 < b := by
    rcases Nat.eq_zero_or_pos b with h0 | h0
    · have hm : L.getD j 0 ∈ L := by
        rw [List.getD_eq_getElem?_getD, List.getElem?_eq_getElem (by omega)]
        exact List.getElem_mem _
      exact h.dig _ hm
    · exact dig_getD h0 h.dig j
  have h6 : b * (vl b (L.drop (j + 1)) + 1) ≤ b * vl b ys := Nat.mul_le_mul_left _ h1
  rw [Nat.mul_comm (vl b ys)]
  rw [Nat.mul_add] at h6
  omega
theorem DivRel.step {b : Nat} {ys : List Nat} {m q U : Nat} {L L' Q : List Nat} {j : Nat} (h : DivRel b ys m q U L Q (j + 1)) (dy : Dig b ys) (hj : j + ys.length + 1 ≤ m + 1) (hq : j < q) (hV : 0 < vl b ys)
    (hW : WinEq L L' j ys.length) (dL : Dig b L') (hs : vl b ((L'.drop j).take (ys.length + 1)) = vl b ((L.drop j).take (ys.length + 1)) % vl b ys) :
    DivRel b ys m q U L' (Q.set j (vl b ((L.drop j).take (ys.length + 1)) / vl b ys)) j := by
  obtain ⟨hz, hX, hlt⟩ := h.win dy hj
  have hlen := h.len
  have hlen' := hW.len
  have hql := h.qlen
  have h4 := vl_split (b := b) (L'.drop j) (ys.length + 1) (by simp; omega)
  rw [List.drop_drop, show j + (ys.length + 1) = j + ys.length + 1 by omega, hW.high, hz, Nat.mul_zero, Nat.add_zero, hs] at h4
  have hd : vl b ((L.drop j).take (ys.length + 1)) / vl b ys < b := by
    rw [Nat.div_lt_iff_lt_mul hV, Nat.mul_comm]; exact hlt
  refine ⟨by omega, by rw [List.length_set, hql], dL, dig_set h.qdig _ hd, by rw [h4]; exact Nat.mod_lt _ hV, ?_⟩
  have h5 := vl_split (b := b) L j (by omega)
  have h6 := vl_split (b := b) L' j (by omega)
  rw [hW.low, h4] at h6
  have h7 := h.val
  rw [vl_drop _ j (by rw [List.length_set]; omega), getD_set_eq (by omega), List.drop_set_of_lt (by omega), h6]
  rw [h5, hX] at h7
  obtain ⟨X, hXe⟩ : ∃ X, vl b ((L.drop j).take (ys.length + 1)) = X := ⟨_, rfl⟩
  obtain ⟨V, hVe⟩ : ∃ V, vl b ys = V := ⟨_, rfl⟩
  obtain ⟨T, hT⟩ : ∃ T, vl b (Q.drop (j + 1)) = T := ⟨_, rfl⟩
  rw [hXe, hVe, hT] at h7 ⊢
  rw [← h7]
  have h8 : V * (b ^ j * (X / V + b * T)) = b ^ j * (V * (X / V)) + V * (b ^ (j + 1) * T) := by
    rw [Nat.pow_succ, Nat.mul_add, Nat.mul_add, Nat.mul_left_comm, Nat.mul_assoc (b ^ j)]
  have h9 : b ^ j * X = b ^ j * (X % V) + b ^ j * (V * (X / V)) := by
    rw [← Nat.mul_add, Nat.mod_add_div]
  rw [h8, h9]
  omega
theorem DivRel.done {b : Nat} {ys : List Nat} {m q U : Nat} {L Q : List Nat} (h : DivRel b ys m q U L Q 0) : vl b Q = U / vl b ys ∧ vl b L = U % vl b ys := by
  have h1 := h.val
  have h2 := h.low
  rw [Nat.pow_zero, Nat.one_mul, List.drop_zero] at h1
  rw [List.drop_zero] at h2
  have hV : 0 < vl b ys := by omega
  rw [← h1, Nat.add_comm, Nat.mul_add_div hV, Nat.mul_add_mod, Nat.div_eq_of_lt h2, Nat.mod_eq_of_lt h2]
  exact ⟨rfl, rfl⟩
theorem DivRel.start {b : Nat} (hb : 0 < b) {ys zs : List Nat} {q : Nat} (dz : Dig b zs) (ty : Top ys) (h0 : ys ≠ []) (hq : q + ys.length = zs.length + 1) :
    DivRel b ys zs.length q (vl b zs) (zs ++ [0]) (List.replicate q 0) q := by
  have hp := vl_pos (b := b) ty h0
  have hl : 0 < ys.length := List.length_pos_iff.2 h0
  have hv : vl b (zs ++ [0]) = vl b zs := by rw [vl_append]; simp [vl]
  refine ⟨by simp, by simp, dig_append dz (fun x hx => by simp at hx; omega), dig_zeros hb _, ?_, by rw [hv]; simp [vl]⟩
  rw [List.drop_append_of_le_length (by omega), vl_append]
  have h1 := vl_lt (dig_drop dz q)
  rw [List.length_drop, show zs.length - q = ys.length - 1 by omega] at h1
  simp only [vl, Nat.mul_zero, Nat.add_zero]
  omega
end Go.Cal
namespace Go.Cal
/-- How long a key is that is written with so many bits: the bits of its regime's end, and what is behind. -/
def bl (x : Nat) : Nat := if x = 0 then 0 else x.log2 + 1
theorem bl_zero : bl 0 = 0 := rfl
theorem bl_iff {x k : Nat} : bl x ≤ k ↔ x < 2 ^ k := by
  unfold bl
  by_cases h : x = 0
  · subst h
    simp
    exact Nat.two_pow_pos k
  · rw [if_neg h, Nat.succ_le_iff, Nat.log2_lt h]
theorem bl_lt (x : Nat) : x < 2 ^ bl x := bl_iff.1 (Nat.le_refl _)
theorem bl_pos {x : Nat} (h : 0 < x) : 0 < bl x ∧ 2 ^ (bl x - 1) ≤ x := by
  have h1 : 0 < bl x := by
    rcases Nat.eq_zero_or_pos (bl x) with h0 | h0
    · have := bl_lt x
      rw [h0] at this
      simp at this
      omega
    · exact h0
  refine ⟨h1, ?_⟩
  rcases Nat.lt_or_ge x (2 ^ (bl x - 1)) with h2 | h2
  · have := bl_iff.2 h2
    omega
  · exact h2
theorem bl_mono {x y : Nat} (h : x ≤ y) : bl x ≤ bl y := bl_iff.2 (Nat.lt_of_le_of_lt h (bl_lt y))
/-- How many bits stand behind the regime (n bits a key), and the regime. -/
def poL (n key : Nat) : Nat := if key < 2 ^ (n - 1) then bl key - 1 else bl (2 ^ n - 1 - key) - 1
def poR (n key : Nat) : Int := if key < 2 ^ (n - 1) then (bl key : Int) - n else (n : Int) - bl (2 ^ n - 1 - key) - 1
/-- What stands behind it, as a number: its exponent, and its fraction, as a numerator over so many bits. -/
def poE (L rest : Nat) : Nat := rest / 2 ^ (L - 2) * 2 ^ (2 - L)
def poF (L rest : Nat) : Nat := 2 ^ (L - 2) + rest % 2 ^ (L - 2)
/-- The number, times 2 to the power of K. -/
def poV (K n key : Nat) : Nat := poF (poL n key) (key % 2 ^ poL n key) * 2 ^ ((K : Int) + 4 * poR n key + poE (poL n key) (key % 2 ^ poL n key) - ((poL n key - 2 : Nat) : Int)).toNat
theorem poE_lt {L rest : Nat} (h : rest < 2 ^ L) : poE L rest < 4 := by
  unfold poE
  rcases Nat.lt_or_ge L 2 with h2 | h2
  · have : L = 0 ∨ L = 1 := by omega
    rcases this with rfl | rfl
    · simp at h ⊢; omega
    · simp at h ⊢; omega
  · rw [show 2 - L = 0 by omega, Nat.pow_zero, Nat.mul_one]
    refine Nat.div_lt_of_lt_mul ?_
    rw [show (4 : Nat) = 2 ^ 2 from rfl, ← Nat.pow_add, show L - 2 + 2 = L by omega]
    exact h
theorem poF_bnd (L rest : Nat) : 2 ^ (L - 2) ≤ poF L rest ∧ poF L rest < 2 * 2 ^ (L - 2) := by
  unfold poF
  have := Nat.mod_lt rest (Nat.two_pow_pos (L - 2))
  omega
/-- The number behind a regime, rising. -/
def poW (M L rest : Nat) : Nat := poF L rest * 2 ^ (M + poE L rest)
theorem poW_lt (M L rest : Nat) (h : rest < 2 ^ L) : 2 ^ (L - 2) * 2 ^ M ≤ poW M L rest ∧ poW M L rest < 2 ^ (L - 2) * 2 ^ (M + 4) := by
  unfold poW
  obtain ⟨f1, f2⟩ := poF_bnd L rest
  have he := poE_lt h
  constructor
  · exact Nat.mul_le_mul f1 (Nat.pow_le_pow_right (by decide) (by omega))
  · have h1 : 2 ^ (M + poE L rest) ≤ 2 ^ (M + 3) := Nat.pow_le_pow_right (by decide) (by omega)
    have h2 : 0 < 2 ^ (M + poE L rest) := Nat.two_pow_pos _
    refine Nat.lt_of_lt_of_le (Nat.mul_lt_mul_of_pos_right f2 h2) ?_
    rw [show M + 4 = (M + 3) + 1 by omega, Nat.pow_succ, Nat.mul_comm 2, Nat.mul_assoc, Nat.mul_comm (2 ^ (M + 3))]
    exact Nat.mul_le_mul_left _ (Nat.mul_le_mul_left _ h1)
theorem poW_mono (M L r1 r2 : Nat) (h : r1 < r2) : poW M L r1 < poW M L r2 := by
  have hp := Nat.two_pow_pos (L - 2)
  obtain ⟨f1, f1'⟩ := poF_bnd L r1
  obtain ⟨f2, f2'⟩ := poF_bnd L r2
  have hle : r1 / 2 ^ (L - 2) ≤ r2 / 2 ^ (L - 2) := Nat.div_le_div_right (Nat.le_of_lt h)
  have hE : poE L r1 ≤ poE L r2 := Nat.mul_le_mul_right _ hle
  unfold poW
  by_cases he : poE L r1 = poE L r2
  · have hq : r1 / 2 ^ (L - 2) = r2 / 2 ^ (L - 2) := Nat.eq_of_mul_eq_mul_right (Nat.two_pow_pos (2 - L)) he
    have hr : r1 % 2 ^ (L - 2) < r2 % 2 ^ (L - 2) := by
      have a1 := Nat.div_add_mod r1 (2 ^ (L - 2))
      have a2 := Nat.div_add_mod r2 (2 ^ (L - 2))
      rw [hq] at a1
      omega
    rw [he]
    refine Nat.mul_lt_mul_of_pos_right ?_ (Nat.two_pow_pos _)
    unfold poF
    omega
  · have hlt : poE L r1 + 1 ≤ poE L r2 := by omega
    have h3 : 2 ^ (M + poE L r1 + 1) ≤ 2 ^ (M + poE L r2) := Nat.pow_le_pow_right (by decide) (by omega)
    have h4 : 0 < 2 ^ (M + poE L r1) := Nat.two_pow_pos _
    refine Nat.lt_of_lt_of_le (Nat.mul_lt_mul_of_pos_right f1' h4) ?_
    rw [Nat.pow_succ] at h3
    calc 2 * 2 ^ (L - 2) * 2 ^ (M + poE L r1) = 2 ^ (L - 2) * (2 ^ (M + poE L r1) * 2) := by ac_rfl
      _ ≤ poF L r2 * 2 ^ (M + poE L r2) := Nat.mul_le_mul f2 h3
theorem poR_mono {n k1 k2 : Nat} (hn : 1 ≤ n) (h : k1 ≤ k2) (h2 : k2 < 2 ^ n) : poR n k1 ≤ poR n k2 := by
  have hpn : 2 ^ n = 2 ^ (n - 1) * 2 := by rw [← Nat.pow_succ, show (n - 1).succ = n by omega]
  unfold poR
  by_cases c1 : k1 < 2 ^ (n - 1)
  · rw [if_pos c1]
    have b1 := bl_iff.2 c1
    by_cases c2 : k2 < 2 ^ (n - 1)
    · rw [if_pos c2]
      have := bl_mono h
      omega
    · rw [if_neg c2]
      have b2 : bl (2 ^ n - 1 - k2) ≤ n - 1 := bl_iff.2 (by omega)
      omega
  · rw [if_neg c1, if_neg (by omega)]
    have := bl_mono (x := 2 ^ n - 1 - k2) (y := 2 ^ n - 1 - k1) (by omega)
    omega
/-- Of one regime: as many bits behind it, and these rise. -/
theorem poR_same {n k1 k2 : Nat} (hn : 1 ≤ n) (h0 : 0 < k1) (h : k1 < k2) (h2 : k2 < 2 ^ n) (hr : poR n k1 = poR n k2) : poL n k1 = poL n k2 ∧ k1 % 2 ^ poL n k1 < k2 % 2 ^ poL n k1 := by
  have hpn : 2 ^ n = 2 ^ (n - 1) * 2 := by rw [← Nat.pow_succ, show (n - 1).succ = n by omega]
  unfold poR at hr
  unfold poL
  by_cases c1 : k1 < 2 ^ (n - 1)
  · rw [if_pos c1] at hr ⊢
    by_cases c2 : k2 < 2 ^ (n - 1)
    · rw [if_pos c2] at hr ⊢
      have he : bl k1 = bl k2 := by omega
      obtain ⟨p1, q1⟩ := bl_pos h0
      obtain ⟨p2, q2⟩ := bl_pos (x := k2) (by omega)
      have l1 := bl_lt k1
      have l2 := bl_lt k2
      rw [← he] at q2 l2
      refine ⟨by rw [he], ?_⟩
      have hp : 2 ^ bl k1 = 2 ^ (bl k1 - 1) * 2 := by rw [← Nat.pow_succ, show (bl k1 - 1).succ = bl k1 by omega]
      rw [Nat.mod_eq_sub_mod q1, Nat.mod_eq_sub_mod q2, Nat.mod_eq_of_lt (by omega), Nat.mod_eq_of_lt (by omega)]
      omega
    · rw [if_neg c2] at hr
      have b1 := bl_iff.2 c1
      have b2 : bl (2 ^ n - 1 - k2) ≤ n - 1 := bl_iff.2 (by omega)
      omega
  · have c2 : ¬ k2 < 2 ^ (n - 1) := by omega
    rw [if_neg c1, if_neg c2] at hr
    rw [if_neg c1, if_neg c2]
    have he : bl (2 ^ n - 1 - k1) = bl (2 ^ n - 1 - k2) := by omega
    obtain ⟨q, hq⟩ : ∃ q, bl (2 ^ n - 1 - k1) = q := ⟨_, rfl⟩
    rw [← he, hq]
    refine ⟨rfl, ?_⟩
    obtain ⟨p1, q1⟩ := bl_pos (x := 2 ^ n - 1 - k1) (by omega)
    rw [hq] at p1 q1
    have l1 := bl_lt (2 ^ n - 1 - k1)
    rw [hq] at l1
    have p2 : 2 ^ (q - 1) ≤ 2 ^ n - 1 - k2 := by
      rcases Nat.eq_zero_or_pos (2 ^ n - 1 - k2) with h9 | h9
      · have : bl (2 ^ n - 1 - k2) = 0 := by rw [h9]; rfl
        omega
      · have := (bl_pos h9).2
        rw [← he, hq] at this
        exact this
    have hp : 2 ^ q = 2 ^ (q - 1) * 2 := by rw [← Nat.pow_succ, show (q - 1).succ = q by omega]
    have hqn : q ≤ n := by rw [← hq]; exact bl_iff.2 (by omega)
    -- both lie in one row of 2 ^ (q - 1) keys that begins at a multiple
    obtain ⟨t, ht⟩ : ∃ t, 2 ^ n = 2 ^ (q - 1) * t := ⟨2 ^ (n - (q - 1)), by rw [← Nat.pow_add, show q - 1 + (n - (q - 1)) = n by omega]⟩
    have ht2 : 2 ≤ t := by
      rcases Nat.lt_or_ge t 2 with h9 | h9
      · have : 2 ^ (q - 1) * t ≤ 2 ^ (q - 1) * 1 := Nat.mul_le_mul_left _ (by omega)
        omega
      · exact h9
    have e0 : 2 ^ (q - 1) * t = 2 ^ (q - 1) * (t - 2) + 2 ^ (q - 1) * 2 := by rw [← Nat.mul_add]; congr 1; omega
    have m1 : k1 = 2 ^ (q - 1) * (t - 2) + (k1 - 2 ^ (q - 1) * (t - 2)) := by omega
    have m2 : k2 = 2 ^ (q - 1) * (t - 2) + (k2 - 2 ^ (q - 1) * (t - 2)) := by omega
    have r1 : k1 % 2 ^ (q - 1) = k1 - 2 ^ (q - 1) * (t - 2) := by
      rw [m1, Nat.mul_add_mod, Nat.mod_eq_of_lt (by omega), ← m1]
    have r2 : k2 % 2 ^ (q - 1) = k2 - 2 ^ (q - 1) * (t - 2) := by
      rw [m2, Nat.mul_add_mod, Nat.mod_eq_of_lt (by omega), ← m2]
    rw [r1, r2]
    omega
theorem poL_le {n key : Nat} (h : key < 2 ^ n) : poL n key ≤ n := by
  unfold poL
  split
  · have := bl_iff.2 h; omega
  · have : bl (2 ^ n - 1 - key) ≤ n := bl_iff.2 (by omega)
    omega
theorem poR_ge {n key : Nat} (h : key < 2 ^ n) : -(n : Int) - 1 ≤ poR n key ∧ poR n key ≤ n := by
  unfold poR
  split
  · have := bl_iff.2 h; omega
  · have : bl (2 ^ n - 1 - key) ≤ n := bl_iff.2 (by omega)
    omega
theorem poV_eq {K n key : Nat} (h : key < 2 ^ n) (hK : 5 * n + 4 ≤ K) : ∃ M : Nat, (M : Int) = (K : Int) + 4 * poR n key - ((poL n key - 2 : Nat) : Int) ∧ poV K n key = poW M (poL n key) (key % 2 ^ poL n key) := by
  have h1 := poL_le h
  have h2 := poR_ge h
  refine ⟨((K : Int) + 4 * poR n key - ((poL n key - 2 : Nat) : Int)).toNat, by omega, ?_⟩
  unfold poV poW
  congr 2
  omega
/-- The numbers of posits rise with their keys. -/
theorem poV_mono {K n k1 k2 : Nat} (hn : 1 ≤ n) (h0 : 0 < k1) (h : k1 < k2) (h2 : k2 < 2 ^ n) (hK : 5 * n + 4 ≤ K) : poV K n k1 < poV K n k2 := by
  obtain ⟨M1, a1, b1⟩ := poV_eq (K := K) (show k1 < 2 ^ n by omega) hK
  obtain ⟨M2, a2, b2⟩ := poV_eq (K := K) h2 hK
  have hm := poR_mono hn (Nat.le_of_lt h) h2
  rw [b1, b2]
  by_cases hr : poR n k1 = poR n k2
  · obtain ⟨e1, e2⟩ := poR_same hn h0 h h2 hr
    rw [e1, hr] at a1
    have : M1 = M2 := by omega
    rw [this, ← e1]
    exact poW_mono _ _ _ _ e2
  · obtain ⟨_, l1⟩ := poW_lt M1 (poL n k1) (k1 % 2 ^ poL n k1) (Nat.mod_lt _ (Nat.two_pow_pos _))
    obtain ⟨l2, _⟩ := poW_lt M2 (poL n k2) (k2 % 2 ^ poL n k2) (Nat.mod_lt _ (Nat.two_pow_pos _))
    rw [← Nat.pow_add] at l1 l2
    have : 2 ^ (poL n k1 - 2 + (M1 + 4)) ≤ 2 ^ (poL n k2 - 2 + M2) := Nat.pow_le_pow_right (by decide) (by omega)
    omega
end Go.Cal
namespace Go.Cal
theorem bl_put {x y k : Nat} (hx : 0 < x) (hy : y < 2 ^ k) : bl (x * 2 ^ k + y) = bl x + k := by
  obtain ⟨h1, h2⟩ := bl_pos hx
  have h3 := bl_lt x
  have hp := Nat.two_pow_pos k
  have hup : x * 2 ^ k + y < 2 ^ (bl x + k) := by
    rw [Nat.pow_add]
    have : (x + 1) * 2 ^ k ≤ 2 ^ bl x * 2 ^ k := Nat.mul_le_mul_right _ h3
    rw [Nat.add_mul, Nat.one_mul] at this
    omega
  have hlo : ¬ x * 2 ^ k + y < 2 ^ (bl x + k - 1) := by
    rw [show bl x + k - 1 = (bl x - 1) + k by omega, Nat.pow_add]
    have : 2 ^ (bl x - 1) * 2 ^ k ≤ x * 2 ^ k := Nat.mul_le_mul_right _ h2
    omega
  have a1 := bl_iff.2 hup
  have a2 : ¬ bl (x * 2 ^ k + y) ≤ bl x + k - 1 := fun h => hlo (bl_iff.1 h)
  omega
theorem bl_ones (k : Nat) : bl (2 ^ k - 1) = k := by
  have hp := Nat.two_pow_pos k
  have a1 : bl (2 ^ k - 1) ≤ k := bl_iff.2 (by omega)
  rcases Nat.eq_zero_or_pos k with h | h
  · omega
  · have a2 : ¬ bl (2 ^ k - 1) ≤ k - 1 := fun hh => by
      have := bl_iff.1 hh
      have e : 2 ^ k = 2 ^ (k - 1) * 2 := by rw [← Nat.pow_succ]; congr 1; omega
      have := Nat.two_pow_pos (k - 1)
      omega
    omega
/-- The noughts ahead of a key that is set against the word's upper end; the ones. -/
theorem run_low {n key : Nat} (hn : n ≤ 64) (h0 : 0 < key) (h : key < 2 ^ n) : 64 - bl (key * 2 ^ (64 - n)) = n - bl key := by
  have e := bl_put (k := 64 - n) (y := 0) h0 (Nat.two_pow_pos _)
  rw [Nat.add_zero] at e
  rw [e]
  have := bl_iff.2 h
  omega
theorem run_high {n key : Nat} (hn : n ≤ 64) (h : key < 2 ^ n) : 64 - bl (2 ^ 64 - 1 - key * 2 ^ (64 - n)) = n - bl (2 ^ n - 1 - key) := by
  have hp := Nat.two_pow_pos (64 - n)
  have e1 : 2 ^ 64 - 1 - key * 2 ^ (64 - n) = (2 ^ n - 1 - key) * 2 ^ (64 - n) + (2 ^ (64 - n) - 1) := by
    have e2 : (2 : Nat) ^ 64 = 2 ^ n * 2 ^ (64 - n) := by rw [← Nat.pow_add]; congr 1; omega
    obtain ⟨d, hd⟩ : ∃ d, 2 ^ n = key + 1 + d := ⟨2 ^ n - (key + 1), by omega⟩
    rw [e2, hd, show key + 1 + d - 1 - key = d by omega, Nat.add_mul, Nat.add_mul, Nat.one_mul]
    omega
  have hb : bl (2 ^ n - 1 - key) ≤ n := bl_iff.2 (by have := Nat.two_pow_pos n; omega)
  rw [e1]
  rcases Nat.eq_zero_or_pos (2 ^ n - 1 - key) with hz | hz
  · rw [hz, Nat.zero_mul, Nat.zero_add, bl_ones, bl_zero]
    omega
  · rw [bl_put hz (by omega)]
    omega
end Go.Cal
namespace Go.Cal
def miM (man key : Nat) : Nat := if key / 2 ^ man = 0 then key % 2 ^ man else 2 ^ man + key % 2 ^ man
def miE (man key : Nat) : Nat := max (key / 2 ^ man) 1
/-- The number of a magnitude, by so many twos. -/
def miW (man key : Nat) : Nat := miM man key * 2 ^ (miE man key - 1)
theorem miW_mono {man k1 k2 : Nat} (h : k1 < k2) : miW man k1 < miW man k2 := by
  obtain ⟨p, hp⟩ : ∃ p, 2 ^ man = p := ⟨_, rfl⟩
  have hp0 : 0 < p := hp ▸ Nat.two_pow_pos man
  have a1 := Nat.div_add_mod k1 p
  have a2 := Nat.div_add_mod k2 p
  have l1 := Nat.mod_lt k1 hp0
  have l2 := Nat.mod_lt k2 hp0
  have hle : k1 / p ≤ k2 / p := Nat.div_le_div_right (Nat.le_of_lt h)
  unfold miW miM miE
  rw [hp]
  by_cases he : k1 / p = k2 / p
  · have hr : k1 % p < k2 % p := by rw [he] at a1; omega
    rw [he]
    refine Nat.mul_lt_mul_of_pos_right ?_ (Nat.two_pow_pos _)
    split <;> omega
  · have hlt : k1 / p + 1 ≤ k2 / p := by omega
    obtain ⟨f1, hf1⟩ : ∃ f, k1 / p = f := ⟨_, rfl⟩
    obtain ⟨f2, hf2⟩ : ∃ f, k2 / p = f := ⟨_, rfl⟩
    rw [hf1, hf2] at hlt ⊢
    rw [if_neg (show ¬ f2 = 0 by omega)]
    have h2 : p * 2 ^ (f2 - 1) ≤ (p + k2 % p) * 2 ^ (max f2 1 - 1) := by
      rw [show max f2 1 = f2 by omega]
      exact Nat.mul_le_mul_right _ (by omega)
    refine Nat.lt_of_lt_of_le ?_ h2
    by_cases h0 : f1 = 0
    · rw [if_pos h0, h0, show max 0 1 - 1 = 0 by omega, Nat.pow_zero, Nat.mul_one]
      have := Nat.two_pow_pos (f2 - 1)
      have : p * 1 ≤ p * 2 ^ (f2 - 1) := Nat.mul_le_mul_left _ this
      omega
    · rw [if_neg h0, show max f1 1 = f1 by omega]
      have h3 : 2 ^ (f1 - 1 + 1) ≤ 2 ^ (f2 - 1) := Nat.pow_le_pow_right (by decide) (by omega)
      have h4 := Nat.two_pow_pos (f1 - 1)
      refine Nat.lt_of_lt_of_le (Nat.mul_lt_mul_of_pos_right (show p + k1 % p < p * 2 by omega) h4) ?_
      rw [Nat.mul_assoc, Nat.mul_comm 2, ← Nat.pow_succ]
      exact Nat.mul_le_mul_left _ h3
/-- A form's numbers, and the boundaries behind them, times 2 to the power of 2000: that of a key at twice the key, the boundary behind it one further. -/
def uN (kd wd mn bs j : Nat) : Nat :=
  if kd = 1 then (if j = 0 then 0 else poV 2000 wd j)
  else if kd = 2 then miW (mn + 1) j * 2 ^ (2000 - bs - mn)
  else if kd = 3 then j * 2 ^ (1999 - mn)
  else (2 + j % 2) * 2 ^ (1999 + j / 2 - bs)
theorem poV_pos {n key : Nat} (h : key < 2 ^ n) (hn : n ≤ 300) : 0 < poV 2000 n key := by
  obtain ⟨M, _, e⟩ := poV_eq (K := 2000) h (by omega)
  rw [e]
  have := (poW_lt M (poL n key) (key % 2 ^ poL n key) (Nat.mod_lt _ (Nat.two_pow_pos _))).1
  exact Nat.lt_of_lt_of_le (Nat.mul_pos (Nat.two_pow_pos _) (Nat.two_pow_pos _)) this
theorem uN_mono {kd wd mn bs j1 j2 : Nat} (hw : kd = 1 → 1 ≤ wd ∧ wd ≤ 300 ∧ j2 < 2 ^ wd) (hb : bs ≤ 1900) (h : j1 < j2) : uN kd wd mn bs j1 < uN kd wd mn bs j2 := by
  unfold uN
  by_cases c1 : kd = 1
  · obtain ⟨w1, w2, w3⟩ := hw c1
    rw [if_pos c1, if_pos c1, if_neg (show ¬ j2 = 0 by omega)]
    by_cases h0 : j1 = 0
    · rw [if_pos h0]; exact poV_pos w3 w2
    · rw [if_neg h0]; exact poV_mono w1 (by omega) h w3 (by omega)
  · rw [if_neg c1, if_neg c1]
    by_cases c2 : kd = 2
    · rw [if_pos c2, if_pos c2]
      exact Nat.mul_lt_mul_of_pos_right (miW_mono h) (Nat.two_pow_pos _)
    · rw [if_neg c2, if_neg c2]
      by_cases c3 : kd = 3
      · rw [if_pos c3, if_pos c3]
        exact Nat.mul_lt_mul_of_pos_right h (Nat.two_pow_pos _)
      · rw [if_neg c3, if_neg c3]
        by_cases he : j1 / 2 = j2 / 2
        · rw [he]
          exact Nat.mul_lt_mul_of_pos_right (by omega) (Nat.two_pow_pos _)
        · have h1 : 2 ^ (1999 + j1 / 2 - bs + 1) ≤ 2 ^ (1999 + j2 / 2 - bs) := Nat.pow_le_pow_right (by decide) (by omega)
          have h2 := Nat.two_pow_pos (1999 + j1 / 2 - bs)
          rw [Nat.pow_succ] at h1
          have h3 : (2 + j1 % 2) * 2 ^ (1999 + j1 / 2 - bs) < 4 * 2 ^ (1999 + j1 / 2 - bs) := Nat.mul_lt_mul_of_pos_right (by omega) h2
          have h4 : 2 * 2 ^ (1999 + j2 / 2 - bs) ≤ (2 + j2 % 2) * 2 ^ (1999 + j2 / 2 - bs) := Nat.mul_le_mul_right _ (by omega)
          omega
end Go.Cal
