/- Plain numbers: lists of digits to a base, their values, sums, products, order. No program in sight. -/
/- Plain numbers: a word out of two by one (the schoolbook digit, guessed and mended). No program in sight. -/
/- Plain numbers: one digit of a quotient, guessed and mended. -/
/- Plain numbers: the loop of long division, over digits that are each right. -/
namespace Go.Cal

/-- The value of digits to base b, the lowest first. -/
def vl (b : Nat) : List Nat → Nat
  | [] => 0
  | x :: xs => x + b * vl b xs

/-- All digits are below b. -/
def Dig (b : Nat) (xs : List Nat) : Prop := ∀ x ∈ xs, x < b

/-- The last digit is not 0. -/
def Top (xs : List Nat) : Prop := ∀ h : xs ≠ [], xs.getLast h ≠ 0

theorem vl_append (b : Nat) (xs ys : List Nat) : vl b (xs ++ ys) = vl b xs + b ^ xs.length * vl b ys := by
  induction xs with
  | nil => simp [vl]
  | cons x xs ih =>
    simp only [List.cons_append, vl, ih, List.length_cons, Nat.pow_succ, Nat.mul_add]
    rw [← Nat.mul_assoc, Nat.mul_comm b (b ^ xs.length)]
    omega

theorem vl_lt {b : Nat} {xs : List Nat} (h : Dig b xs) : vl b xs < b ^ xs.length := by
  induction xs with
  | nil => simp [vl]
  | cons x xs ih =>
    have hx : x < b := h x (by simp)
    have ih := ih fun y hy => h y (by simp [hy])
    simp only [vl, List.length_cons, Nat.pow_succ]
    have : b * (vl b xs + 1) ≤ b * b ^ xs.length := Nat.mul_le_mul_left b ih
    rw [Nat.mul_comm (b ^ xs.length) b]
    rw [Nat.mul_add] at this
    omega

theorem vl_zeros (b n : Nat) : vl b (List.replicate n 0) = 0 := by
  induction n with
  | zero => rfl
  | succ n ih => simp [List.replicate_succ, vl, ih]

theorem vl_pos {b : Nat} {xs : List Nat} (h : Top xs) (hn : xs ≠ []) : b ^ (xs.length - 1) ≤ vl b xs := by
  obtain ⟨ys, y, rfl⟩ : ∃ ys y, xs = ys ++ [y] := ⟨xs.dropLast, xs.getLast hn, (List.dropLast_concat_getLast hn).symm⟩
  have hy : y ≠ 0 := by have := h hn; simpa using this
  rw [vl_append]
  simp only [List.length_append, List.length_singleton, Nat.add_sub_cancel, vl, Nat.mul_zero, Nat.add_zero]
  have : b ^ ys.length * 1 ≤ b ^ ys.length * y := Nat.mul_le_mul_left _ (by omega)
  omega

theorem canon_unique {b : Nat} (hb : 0 < b) : ∀ {xs ys : List Nat}, Dig b xs → Dig b ys → Top xs → Top ys → vl b xs = vl b ys → xs = ys
  | [], [], _, _, _, _, _ => rfl
  | [], y :: ys, _, hy, _, ty, h => by
    have h1 := vl_pos (b := b) ty (by simp)
    have h2 := Nat.pow_pos (n := (y :: ys).length - 1) hb
    simp only [vl] at h h1
    omega
  | x :: xs, [], hx, _, tx, _, h => by
    have h1 := vl_pos (b := b) tx (by simp)
    have h2 := Nat.pow_pos (n := (x :: xs).length - 1) hb
    simp only [vl] at h h1
    omega
  | x :: xs, y :: ys, hx, hy, tx, ty, h => by
    simp only [vl] at h
    have h1 : x < b := hx x (by simp)
    have h2 : y < b := hy y (by simp)
    have e1 : x = y := by
      have := congrArg (· % b) h
      simpa [Nat.add_mul_mod_self_left, Nat.mod_eq_of_lt h1, Nat.mod_eq_of_lt h2] using this
    subst e1
    have e2 : vl b xs = vl b ys := Nat.eq_of_mul_eq_mul_left hb (by omega)
    have tx' : Top xs := fun hn => by have := tx (by simp); rwa [List.getLast_cons hn] at this
    have ty' : Top ys := fun hn => by have := ty (by simp); rwa [List.getLast_cons hn] at this
    rw [canon_unique hb (fun z hz => hx z (by simp [hz])) (fun z hz => hy z (by simp [hz])) tx' ty' e2]

theorem vl_lt_of_length {b : Nat} (hb : 0 < b) {xs ys : List Nat} (hx : Dig b xs) (ty : Top ys) (h : xs.length < ys.length) : vl b xs < vl b ys := by
  have h1 := vl_lt hx
  have h2 := vl_pos (b := b) ty (by intro e; subst e; simp at h)
  have h3 : b ^ xs.length ≤ b ^ (ys.length - 1) := Nat.pow_le_pow_right hb (by omega)
  omega

theorem vl_getD {b : Nat} (xs : List Nat) (k : Nat) : vl b (xs.take (k + 1)) = vl b (xs.take k) + b ^ k * xs.getD k 0 := by
  by_cases h : k < xs.length
  · rw [List.take_succ_eq_append_getElem h, vl_append]
    simp [vl, List.getD_eq_getElem?_getD, h, Nat.min_eq_left (Nat.le_of_lt h)]
  · rw [List.take_of_length_le (by omega), List.take_of_length_le (by omega)]
    simp [List.getD_eq_getElem?_getD, List.getElem?_eq_none (Nat.le_of_not_lt h)]

theorem vl_take_all {b : Nat} (xs : List Nat) (k : Nat) (h : xs.length ≤ k) : vl b (xs.take k) = vl b xs := by rw [List.take_of_length_le h]

theorem vl_drop {b : Nat} (xs : List Nat) (k : Nat) (h : k < xs.length) : vl b (xs.drop k) = xs.getD k 0 + b * vl b (xs.drop (k + 1)) := by
  rw [List.drop_eq_getElem_cons h]
  simp [vl, List.getD_eq_getElem?_getD, h]

theorem vl_split {b : Nat} (xs : List Nat) (k : Nat) (h : k ≤ xs.length) : vl b xs = vl b (xs.take k) + b ^ k * vl b (xs.drop k) := by
  conv => lhs; rw [← List.take_append_drop k xs]
  rw [vl_append, List.length_take, Nat.min_eq_left h]

/-- What is left of digits without noughts at the end. -/
theorem vl_trim {b : Nat} {xs : List Nat} {n : Nat} (h : ∀ j, n ≤ j → j < xs.length → xs.getD j 0 = 0) : vl b (xs.take n) = vl b xs := by
  by_cases hn : xs.length ≤ n
  · rw [List.take_of_length_le hn]
  · have hz : xs.drop n = List.replicate (xs.length - n) 0 := by
      apply List.ext_getElem
      · simp
      · intro i h1 h2
        simp at h1
        have := h (n + i) (by omega) (by omega)
        simp [List.getD_eq_getElem?_getD, show n + i < xs.length by omega] at this
        simp [this]
    rw [vl_split xs n (by omega), hz, vl_zeros, Nat.mul_zero, Nat.add_zero]

theorem top_take {xs : List Nat} {n : Nat} (hn : n ≤ xs.length) (h : n = 0 ∨ xs.getD (n - 1) 0 ≠ 0) : Top (xs.take n) := by
  intro hne
  rcases h with rfl | h
  · simp at hne
  · have hp : 0 < n := by
      rcases Nat.eq_zero_or_pos n with rfl | h
      · simp at hne
      · exact h
    rw [List.getLast_eq_getElem]
    simp only [List.length_take, Nat.min_eq_left hn, List.getElem_take]
    simpa [List.getD_eq_getElem?_getD, show n - 1 < xs.length by omega] using h

theorem dig_take {b : Nat} {xs : List Nat} (h : Dig b xs) (n : Nat) : Dig b (xs.take n) := fun x hx => h x (List.mem_of_mem_take hx)
theorem dig_drop {b : Nat} {xs : List Nat} (h : Dig b xs) (n : Nat) : Dig b (xs.drop n) := fun x hx => h x (List.mem_of_mem_drop hx)
theorem dig_append {b : Nat} {xs ys : List Nat} (h : Dig b xs) (k : Dig b ys) : Dig b (xs ++ ys) := fun x hx => by
  rcases List.mem_append.1 hx with h1 | h1
  · exact h x h1
  · exact k x h1
theorem dig_set {b : Nat} {xs : List Nat} (h : Dig b xs) (i : Nat) {x : Nat} (hx : x < b) : Dig b (xs.set i x) := fun y hy => by
  rcases List.mem_or_eq_of_mem_set hy with h1 | h1
  · exact h y h1
  · omega
theorem dig_getD {b : Nat} (hb : 0 < b) {xs : List Nat} (h : Dig b xs) (i : Nat) : xs.getD i 0 < b := by
  rw [List.getD_eq_getElem?_getD]
  by_cases hi : i < xs.length
  · simp [hi]; exact h _ (List.getElem_mem hi)
  · simp [List.getElem?_eq_none (Nat.le_of_not_lt hi), hb]
theorem dig_zeros {b : Nat} (hb : 0 < b) (n : Nat) : Dig b (List.replicate n 0) := fun x hx => by
  have := List.eq_of_mem_replicate hx; omega

theorem take_set_le {xs : List Nat} {k i x : Nat} (h : k ≤ i) : (xs.set i x).take k = xs.take k := by
  apply List.ext_getElem?
  intro j
  simp only [List.getElem?_take]
  split
  · rw [List.getElem?_set_ne (by omega)]
  · rfl
theorem take_set_succ {xs : List Nat} {k x : Nat} (h : k < xs.length) : (xs.set k x).take (k + 1) = xs.take k ++ [x] := by
  rw [List.take_succ_eq_append_getElem (by simpa using h), take_set_le (Nat.le_refl k)]
  simp
theorem vl_take_set {b : Nat} {xs : List Nat} {k x : Nat} (h : k < xs.length) : vl b ((xs.set k x).take (k + 1)) = vl b (xs.take k) + b ^ k * x := by
  rw [take_set_succ h, vl_append]
  simp [vl, Nat.min_eq_left (Nat.le_of_lt h)]
theorem getD_set_ne {xs : List Nat} {k i x : Nat} (h : k ≠ i) : (xs.set k x).getD i 0 = xs.getD i 0 := by
  simp [List.getD_eq_getElem?_getD, List.getElem?_set_ne h]
theorem getD_set_eq {xs : List Nat} {k x : Nat} (h : k < xs.length) : (xs.set k x).getD k 0 = x := by
  simp [List.getD_eq_getElem?_getD, h]

theorem vl_set {b : Nat} : ∀ (xs : List Nat) (k x : Nat), k < xs.length → vl b (xs.set k x) + b ^ k * xs.getD k 0 = vl b xs + b ^ k * x
  | [], k, x, h => by simp at h
  | y :: ys, 0, x, _ => by simp [vl]; omega
  | y :: ys, k + 1, x, h => by
    have ih := vl_set (b := b) ys k x (by simpa using h)
    have e : (y :: ys).getD (k + 1) 0 = ys.getD k 0 := by simp [List.getD_eq_getElem?_getD]
    simp only [List.set_cons_succ, vl, e, Nat.pow_succ]
    have := congrArg (b * ·) ih
    simp only [Nat.mul_add] at this
    rw [Nat.mul_comm (b ^ k) b, Nat.mul_assoc, Nat.mul_assoc]
    omega
/-- One step of a sum: k digits are summed, and a carry. -/
theorem sum_step {b X Y R P c x y s c' : Nat} (h : R + P * c = X + Y) (hs : x + y + c = s + b * c') : R + P * s + P * b * c' = (X + P * x) + (Y + P * y) := by
  have : P * (x + y + c) = P * (s + b * c') := by rw [hs]
  simp only [Nat.mul_add, ← Nat.mul_assoc] at this
  omega
/-- One step of a difference. -/
theorem diff_step {b X Y R P c x y s c' : Nat} (h : R + Y = X + P * c) (hs : s + y + c = x + b * c') : R + P * s + (Y + P * y) = X + P * x + P * b * c' := by
  have : P * (s + y + c) = P * (x + b * c') := by rw [hs]
  simp only [Nat.mul_add, ← Nat.mul_assoc] at this
  omega
theorem vl_lex {b : Nat} {xs ys : List Nat} {m : Nat} (dx : Dig b xs) (hl : xs.length = ys.length) (hm : m < xs.length) (hd : xs.drop (m + 1) = ys.drop (m + 1)) (h : xs.getD m 0 < ys.getD m 0) : vl b xs < vl b ys := by
  have e1 := vl_split (b := b) xs m (by omega)
  have e2 := vl_split (b := b) ys m (by omega)
  rw [vl_drop xs m hm] at e1
  rw [vl_drop ys m (by omega), ← hd] at e2
  have h1 := vl_lt (dig_take dx m)
  rw [List.length_take, Nat.min_eq_left (Nat.le_of_lt hm)] at h1
  have h2 : b ^ m * (xs.getD m 0 + b * vl b (xs.drop (m + 1)) + 1) ≤ b ^ m * (ys.getD m 0 + b * vl b (xs.drop (m + 1))) := Nat.mul_le_mul_left _ (by omega)
  rw [Nat.mul_add] at h2
  omega
theorem drop_step {xs ys : List Nat} {m : Nat} (hl : xs.length = ys.length) (hm : m < xs.length) (hd : xs.drop (m + 1) = ys.drop (m + 1)) (h : xs.getD m 0 = ys.getD m 0) : xs.drop m = ys.drop m := by
  rw [List.drop_eq_getElem_cons hm, List.drop_eq_getElem_cons (by omega : m < ys.length), hd]
  simp [List.getD_eq_getElem?_getD, hm, show m < ys.length by omega] at h
  rw [h]
/-- -1, 0, 1. -/
def cmpV (a b : Int) : Int := if a < b then -1 else if b < a then 1 else 0
theorem cmpV_lt {a b : Int} (h : a < b) : cmpV a b = -1 := by unfold cmpV; rw [if_pos h]
theorem cmpV_gt {a b : Int} (h : b < a) : cmpV a b = 1 := by unfold cmpV; rw [if_neg (by omega), if_pos h]
theorem cmpV_eq {a b : Int} (h : a = b) : cmpV a b = 0 := by unfold cmpV; rw [if_neg (by omega), if_neg (by omega)]
theorem cmpV_cases (a b : Int) : (a < b ∧ cmpV a b = -1) ∨ (b < a ∧ cmpV a b = 1) ∨ (a = b ∧ cmpV a b = 0) := by
  rcases Int.lt_trichotomy a b with h | h | h
  · exact .inl ⟨h, cmpV_lt h⟩
  · exact .inr (.inr ⟨h, cmpV_eq h⟩)
  · exact .inr (.inl ⟨h, cmpV_gt h⟩)
end Go.Cal
namespace Go.Cal
/-- A guessed digit: never too small. -/
structure QRel (y1 y0 u n qh rh : Nat) : Prop where
  sum : qh * y1 + rh = u
  big : u * 4294967296 + n < (qh + 1) * (y1 * 4294967296 + y0)
  top : qh ≤ 4294967297
  left : rh < 4294967296
theorem QRel.start {y1 y0 u n : Nat} (h1 : 2147483648 ≤ y1) (h1' : y1 < 4294967296) (h0 : y0 < 4294967296) (hn : n < 4294967296) (hu : u < y1 * 4294967296 + y0) : QRel y1 y0 u n (u / y1) (u - u / y1 * y1) := by
  have hp : 0 < y1 := by omega
  have hd := Nat.div_add_mod u y1
  have hm := Nat.mod_lt u hp
  rw [Nat.mul_comm] at hd
  refine ⟨by omega, ?_, ?_, by omega⟩
  · have : (u + 1) * 4294967296 ≤ (u / y1 + 1) * y1 * 4294967296 := Nat.mul_le_mul_right _ (by rw [Nat.add_mul]; omega)
    rw [Nat.mul_add, ← Nat.mul_assoc]
    have h3 : 0 ≤ (u / y1 + 1) * y0 := Nat.zero_le _
    omega
  · apply Nat.le_of_lt_succ
    rw [Nat.div_lt_iff_lt_mul hp]
    omega
/-- The guess is right. -/
theorem QRel.done {y1 y0 u n qh rh : Nat} (h : QRel y1 y0 u n qh rh) (hq : qh * y0 ≤ 4294967296 * rh + n) : qh = (u * 4294967296 + n) / (y1 * 4294967296 + y0) := by
  have h1 := h.sum
  have h2 := h.big
  have e : qh * (y1 * 4294967296 + y0) = qh * y1 * 4294967296 + qh * y0 := by rw [Nat.mul_add, ← Nat.mul_assoc]
  symm
  apply Nat.div_eq_of_lt_le
  · omega
  · exact h2
/-- The guess is mended. -/
theorem QRel.mend {y1 y0 u n qh rh : Nat} (h : QRel y1 y0 u n qh rh) (hu : u < y1 * 4294967296 + y0) (hn : n < 4294967296) (hc : 4294967296 ≤ qh ∨ 4294967296 * rh + n < qh * y0) :
    0 < qh ∧ (rh + y1 < 4294967296 → QRel y1 y0 u n (qh - 1) (rh + y1)) ∧ (y0 < 4294967296 → 4294967296 ≤ rh + y1 → qh - 1 = (u * 4294967296 + n) / (y1 * 4294967296 + y0)) := by
  have h0 : 0 < qh := by
    rcases hc with hc | hc
    · omega
    · rcases Nat.eq_zero_or_pos qh with h | h
      · subst h; omega
      · exact h
  obtain ⟨q, rfl⟩ : ∃ q, qh = q + 1 := ⟨qh - 1, by omega⟩
  have h1 := h.sum
  have h2 := h.big
  have h3 := h.top
  rw [Nat.add_mul] at h1
  have e : (q + 1) * (y1 * 4294967296 + y0) = (q * y1 + 1 * y1) * 4294967296 + (q + 1) * y0 := by rw [Nat.mul_add, ← Nat.mul_assoc, Nat.add_mul]
  have hbig : u * 4294967296 + n < (q + 1) * (y1 * 4294967296 + y0) := by
    rcases hc with hc | hc
    · have : 4294967296 * (y1 * 4294967296 + y0) ≤ (q + 1) * (y1 * 4294967296 + y0) := Nat.mul_le_mul_right _ hc
      omega
    · omega
  refine ⟨by omega, fun hr => ⟨by simp; omega, by simpa using hbig, by simp; omega, hr⟩, fun hy hr => ?_⟩
  rw [Nat.add_sub_cancel]
  symm
  have e2 : q * (y1 * 4294967296 + y0) = q * y1 * 4294967296 + q * y0 := by rw [Nat.mul_add, ← Nat.mul_assoc]
  have h5 : q * y0 ≤ 4294967296 * 4294967295 := Nat.mul_le_mul (by omega) (by omega)
  apply Nat.div_eq_of_lt_le
  · omega
  · exact hbig
/-- Two digits of a quotient, one behind the other. -/
theorem two_digits_b {b Y u n1 n0 : Nat} (hY : 0 < Y) :
    (u * b + n1) / Y * b + ((u * b + n1) % Y * b + n0) / Y = ((u * b + n1) * b + n0) / Y ∧ ((u * b + n1) % Y * b + n0) % Y = ((u * b + n1) * b + n0) % Y := by
  have h := Nat.div_add_mod (u * b + n1) Y
  have e : (u * b + n1) * b + n0 = ((u * b + n1) % Y * b + n0) + Y * ((u * b + n1) / Y * b) := by
    conv => lhs; rw [← h]
    rw [Nat.add_mul, Nat.mul_assoc]; omega
  rw [e, Nat.add_mul_div_left _ _ hY, Nat.add_mul_mod_self_left]
  exact ⟨Nat.add_comm _ _, rfl⟩
theorem digit_lt {Y u n : Nat} (hu : u < Y) (hn : n < 4294967296) : (u * 4294967296 + n) / Y < 4294967296 := by
  rw [Nat.div_lt_iff_lt_mul (by omega)]
  have : (u + 1) * 4294967296 ≤ Y * 4294967296 := Nat.mul_le_mul_right _ hu
  rw [Nat.mul_comm 4294967296 Y]
  omega
/-- What is divided and what divides, times the same: the quotient stays, what is left is as many times as great. -/
theorem scaled {N y p : Nat} (hp : 0 < p) : N * p / (y * p) = N / y ∧ N * p % (y * p) / p = N % y := by
  refine ⟨Nat.mul_div_mul_right _ _ hp, ?_⟩
  rw [Nat.mul_mod_mul_right, Nat.mul_div_cancel _ hp]
theorem shl_parts {hi lo y s : Nat} (hs : s ≤ 63) (hlo : lo < 18446744073709551616) (hy : hi < y) (hY1 : y * 2 ^ s < 18446744073709551616) :
    lo / 2 ^ (64 - s) < 2 ^ s ∧ hi * 2 ^ s < 18446744073709551616 ∧ (hi * 2 ^ s + lo / 2 ^ (64 - s)) * 18446744073709551616 + lo * 2 ^ s % 18446744073709551616 = (hi * 18446744073709551616 + lo) * 2 ^ s ∧ hi * 2 ^ s + lo / 2 ^ (64 - s) < y * 2 ^ s := by
  have hp := Nat.two_pow_pos s
  have e64 : 2 ^ (64 - s) * 2 ^ s = 18446744073709551616 := by rw [← Nat.pow_add, show 64 - s + s = 64 by omega]
  have h1 : lo / 2 ^ (64 - s) < 2 ^ s := by
    rw [Nat.div_lt_iff_lt_mul (Nat.two_pow_pos _), Nat.mul_comm, e64]; exact hlo
  have h2 : (hi + 1) * 2 ^ s ≤ y * 2 ^ s := Nat.mul_le_mul_right _ hy
  rw [Nat.add_mul] at h2
  have h3 : lo * 2 ^ s / 18446744073709551616 = lo / 2 ^ (64 - s) := by rw [← e64, Nat.mul_div_mul_right _ _ hp]
  have h4 := Nat.div_add_mod (lo * 2 ^ s) 18446744073709551616
  rw [h3] at h4
  refine ⟨h1, by omega, ?_, by omega⟩
  rw [Nat.add_mul, Nat.add_mul (hi * _), Nat.mul_right_comm]
  omega
end Go.Cal
namespace Go.Cal
/-- Only a window of n + 1 words from place k on may have turned. -/
structure WinEq (L0 L : List Nat) (k n : Nat) : Prop where
  len : L.length = L0.length
  low : L.take k = L0.take k
  high : L.drop (k + n + 1) = L0.drop (k + n + 1)
theorem WinEq.refl (L : List Nat) (k n : Nat) : WinEq L L k n := ⟨rfl, rfl, rfl⟩
theorem WinEq.set {L0 L : List Nat} {k n : Nat} (h : WinEq L0 L k n) (i x : Nat) (hi : i ≤ n) : WinEq L0 (L.set (k + i) x) k n :=
  ⟨by rw [List.length_set, h.len], by rw [take_set_le (by omega), h.low], by rw [List.drop_set_of_lt (by omega), h.high]⟩
theorem drop_set_in (L : List Nat) (k i x : Nat) : (L.set (k + i) x).drop k = (L.drop k).set i x := by
  rw [List.drop_set, if_neg (by omega), show k + i - k = i by omega]
theorem getD_drop' (xs : List Nat) (q i : Nat) : (xs.drop q).getD i 0 = xs.getD (q + i) 0 := by
  simp [List.getD_eq_getElem?_getD, List.getElem?_drop]
/-- At the head of a round of the subtraction: i words are done. -/
structure DSub (b : Nat) (D0 D ys : List Nat) (G i bo ca : Nat) : Prop where
  dig : Dig b D
  bo1 : bo ≤ 1
  ca1 : ca < b
  same : ∀ j, i ≤ j → D.getD j 0 = D0.getD j 0
  val : vl b (D.take i) + G * vl b (ys.take i) = vl b (D0.take i) + b ^ i * (bo + ca)
  carry : b ^ i * ca ≤ G * vl b (ys.take i)
theorem DSub.step {b : Nat} {D0 D ys : List Nat} {G i bo ca : Nat} (h : DSub b D0 D ys G i bo ca) (hi : i < D.length) {y u s bo' lo ca' : Nat} (hy : ys.getD i 0 = y) (hu : D.getD i 0 = u) (hs : s < b) (hbo : bo' ≤ 1) (hca : ca' < b)
    (h1 : s + lo + bo = u + b * bo') (h2 : G * y + ca = lo + b * ca') : DSub b D0 (D.set i s) ys G (i + 1) bo' ca' := by
  refine ⟨dig_set h.dig _ hs, hbo, hca, fun j hj => by rw [Go.Cal.getD_set_ne (by omega)]; exact h.same j (by omega), ?_, ?_⟩
  rotate_left
  · rw [vl_getD, hy, Nat.mul_add, Nat.pow_succ, Nat.mul_assoc]
    have h3 := h.carry
    have h5 : b ^ i * (G * y + ca) = b ^ i * (lo + b * ca') := by rw [h2]
    have h6 : G * (b ^ i * y) = b ^ i * (G * y) := by rw [← Nat.mul_assoc, Nat.mul_comm G, Nat.mul_assoc]
    rw [h6]
    simp only [Nat.mul_add] at h5 ⊢
    omega
  have hu0 : D0.getD i 0 = u := by rw [← h.same i (Nat.le_refl _), hu]
  rw [vl_take_set hi, vl_getD, vl_getD, hy, hu0, Nat.mul_add, Nat.pow_succ, Nat.mul_assoc]
  have h3 := h.val
  have h4 : b ^ i * (s + lo + bo) = b ^ i * (u + b * bo') := by rw [h1]
  have h5 : b ^ i * (G * y + ca) = b ^ i * (lo + b * ca') := by rw [h2]
  have h6 : G * (b ^ i * y) = b ^ i * (G * y) := by rw [← Nat.mul_assoc, Nat.mul_comm G, Nat.mul_assoc]
  rw [h6]
  simp only [Nat.mul_add] at h3 h4 h5 ⊢
  omega
/-- At the head of a round of the mending sum. -/
structure DAdd (b : Nat) (D0 D ys : List Nat) (i c : Nat) : Prop where
  dig : Dig b D
  c1 : c ≤ 1
  same : ∀ j, i ≤ j → D.getD j 0 = D0.getD j 0
  val : vl b (D.take i) + b ^ i * c = vl b (D0.take i) + vl b (ys.take i)
theorem DAdd.step {b : Nat} {D0 D ys : List Nat} {i c : Nat} (h : DAdd b D0 D ys i c) (hi : i < D.length) {y u s c' : Nat} (hy : ys.getD i 0 = y) (hu : D.getD i 0 = u) (hs : s < b) (hc : c' ≤ 1)
    (h1 : u + y + c = s + b * c') : DAdd b D0 (D.set i s) ys (i + 1) c' := by
  refine ⟨dig_set h.dig _ hs, hc, fun j hj => by rw [Go.Cal.getD_set_ne (by omega)]; exact h.same j (by omega), ?_⟩
  have hu0 : D0.getD i 0 = u := by rw [← h.same i (Nat.le_refl _), hu]
  rw [vl_take_set hi, vl_getD, vl_getD, hy, hu0, Nat.pow_succ]
  exact sum_step h.val h1
/-- A guess that is not too small. -/
theorem guess_top {b X V G vm u1 u0 : Nat} {P : Nat} (hv : vm * P ≤ V) (hX : X < (u1 * b + u0 + 1) * P) (hG : G = (u1 * b + u0) / vm) (hvm : 0 < vm) : X < (G + 1) * V := by
  have h1 : u1 * b + u0 < (G + 1) * vm := by
    rw [hG, Nat.mul_comm _ vm]; exact Nat.lt_mul_div_succ _ hvm
  have h2 : (u1 * b + u0 + 1) * P ≤ (G + 1) * vm * P := Nat.mul_le_mul_right _ h1
  have h3 : (G + 1) * (vm * P) ≤ (G + 1) * V := Nat.mul_le_mul_left _ hv
  rw [← Nat.mul_assoc] at h3
  omega
theorem window_top {b : Nat} {D : List Nat} {n : Nat} (d : Dig b D) (h : n + 2 ≤ D.length) : vl b (D.take (n + 2)) < (D.getD (n + 1) 0 * b + D.getD n 0 + 1) * b ^ n := by
  rw [vl_getD, vl_getD, Nat.pow_succ]
  have h1 := vl_lt (dig_take d n)
  rw [List.length_take, Nat.min_eq_left (by omega)] at h1
  have e : (D.getD (n + 1) 0 * b + D.getD n 0 + 1) * b ^ n = b ^ n * b * D.getD (n + 1) 0 + b ^ n * D.getD n 0 + b ^ n := by
    rw [Nat.add_mul, Nat.add_mul, Nat.one_mul, Nat.mul_comm (D.getD n 0), Nat.mul_comm (D.getD (n + 1) 0 * b), Nat.mul_comm (D.getD (n + 1) 0) b, Nat.mul_assoc]
  rw [e]
  omega
theorem divisor_low {b : Nat} {ys : List Nat} {n : Nat} (h : n + 1 = ys.length) : ys.getD n 0 * b ^ n ≤ vl b ys := by
  have := vl_getD (b := b) ys n
  rw [vl_take_all ys _ (by omega)] at this
  rw [this, Nat.mul_comm]
  omega
/-- At the head of a round of the mending: the guess, and whether it is too great. -/
structure DMend (b X V P S G bo : Nat) : Prop where
  bo1 : bo ≤ 1
  val : S + G * V = X + P * bo
  top : X < (G + 1) * V
  lt : S < P
theorem DMend.done {b X V P S G : Nat} (h : DMend b X V P S G 0) : G = X / V ∧ S = X % V := by
  have h1 := h.val
  have h2 := h.top
  rw [Nat.mul_zero, Nat.add_zero] at h1
  rw [Nat.add_mul] at h2
  have hV : S < V := by omega
  rw [← h1, Nat.add_comm, Nat.mul_comm]
  have hp : 0 < V := by omega
  rw [Nat.mul_add_div hp, Nat.mul_add_mod, Nat.div_eq_of_lt hV, Nat.mod_eq_of_lt hV]
  exact ⟨rfl, rfl⟩
theorem DMend.step {b X V P S G S' c : Nat} (h : DMend b X V P S G 1) (hs : S' + P * c = S + V) (hlt : S' < P) (hc : c ≤ 1) : 0 < G ∧ DMend b X V P S' (G - 1) (1 - c) := by
  have h1 := h.val
  have h2 := h.top
  have h3 := h.lt
  have hG : 0 < G := by
    rcases Nat.eq_zero_or_pos G with h0 | h0
    · subst h0; omega
    · exact h0
  obtain ⟨g, rfl⟩ : ∃ g, G = g + 1 := ⟨G - 1, by omega⟩
  rw [Nat.add_mul] at h1 h2
  refine ⟨hG, by omega, ?_, ?_, hlt⟩
  · rw [Nat.add_sub_cancel]
    have : c = 0 ∨ c = 1 := by omega
    rcases this with rfl | rfl <;> omega
  · rw [Nat.add_sub_cancel, Nat.add_mul]; omega
/-- The subtraction is through. -/
theorem DSub.done {b : Nat} {D0 D ys : List Nat} {G n bo ca : Nat} (h : DSub b D0 D ys G (n + 1) bo ca) (hyl : ys.length = n) (hG : G < b) (hl : n + 1 ≤ D.length) (dy : Dig b ys)
    (ht : vl b (D0.take (n + 1)) < (G + 1) * vl b ys) : DMend b (vl b (D0.take (n + 1))) (vl b ys) (b ^ (n + 1)) (vl b (D.take (n + 1))) G bo := by
  have h1 := h.val
  have h2 := h.carry
  rw [vl_take_all ys _ (by omega)] at h1 h2
  have h3 := vl_lt (dig_take h.dig (n + 1))
  rw [List.length_take, Nat.min_eq_left hl] at h3
  have h4 := vl_lt dy
  rw [hyl] at h4
  have hb : 0 < b := by omega
  have hP : 0 < b ^ n := Nat.pow_pos hb
  have h5 : G * vl b ys < b ^ (n + 1) := by
    rw [Nat.pow_succ, Nat.mul_comm (b ^ n)]
    exact Nat.lt_of_le_of_lt (Nat.mul_le_mul_left _ (Nat.le_of_lt h4)) (Nat.mul_lt_mul_of_pos_right hG hP)
  have hc : ca = 0 := by
    rcases Nat.eq_zero_or_pos ca with h0 | h0
    · exact h0
    · have := Nat.mul_le_mul_left (b ^ (n + 1)) h0
      omega
  subst hc
  exact ⟨h.bo1, by simpa using h1, ht, h3⟩
theorem DAdd.done {b : Nat} {D0 D ys : List Nat} {n c : Nat} (h : DAdd b D0 D ys (n + 1) c) (hyl : ys.length = n) (hl : n + 1 ≤ D.length) :
    vl b (D.take (n + 1)) + b ^ (n + 1) * c = vl b (D0.take (n + 1)) + vl b ys ∧ vl b (D.take (n + 1)) < b ^ (n + 1) := by
  have h1 := h.val
  rw [vl_take_all ys _ (by omega)] at h1
  have h3 := vl_lt (dig_take h.dig (n + 1))
  rw [List.length_take, Nat.min_eq_left hl] at h3
  exact ⟨h1, h3⟩
end Go.Cal
namespace Go.Cal
/-- At the head of a round: j digits are left; the rows L (what is left) and Q (the digits). -/
structure DivRel (b : Nat) (ys : List Nat) (m q U : Nat) (L Q : List Nat) (j : Nat) : Prop where
  len : L.length = m + 1
  qlen : Q.length = q
  dig : Dig b L
  qdig : Dig b Q
  low : vl b (L.drop j) < vl b ys
  val : vl b L + vl b ys * (b ^ j * vl b (Q.drop j)) = U
theorem DivRel.win {b : Nat} {ys : List Nat} {m q U : Nat} {L Q : List Nat} {j : Nat} (h : DivRel b ys m q U L Q (j + 1)) (dy : Dig b ys) (hj : j + ys.length + 1 ≤ m + 1) :
    vl b (L.drop (j + ys.length + 1)) = 0 ∧ vl b (L.drop j) = vl b ((L.drop j).take (ys.length + 1)) ∧ vl b ((L.drop j).take (ys.length + 1)) < vl b ys * b := by
  have hlen := h.len
  have h1 := h.low
  have h2 := vl_lt dy
  have h3 := vl_split (b := b) (L.drop (j + 1)) ys.length (by simp; omega)
  rw [List.drop_drop, show j + 1 + ys.length = j + ys.length + 1 by omega] at h3
  have hz : vl b (L.drop (j + ys.length + 1)) = 0 := by
    rcases Nat.eq_zero_or_pos (vl b (L.drop (j + ys.length + 1))) with h0 | h0
    · exact h0
    · have := Nat.mul_le_mul_left (b ^ ys.length) h0
      omega
  have h4 := vl_split (b := b) (L.drop j) (ys.length + 1) (by simp; omega)
  rw [List.drop_drop, show j + (ys.length + 1) = j + ys.length + 1 by omega, hz, Nat.mul_zero, Nat.add_zero] at h4
  refine ⟨hz, h4, ?_⟩
  rw [← h4, vl_drop L j (by omega)]
  have h5 : L.getD j 0 < b := by
    rcases Nat.eq_zero_or_pos b with h0 | h0
    · have hm : L.getD j 0 ∈ L := by
        rw [List.getD_eq_getElem?_getD, List.getElem?_eq_getElem (by omega)]
        exact List.getElem_mem _
      exact h.dig _ hm
    · exact dig_getD h0 h.dig j
  have h6 : b * (vl b (L.drop (j + 1)) + 1) ≤ b * vl b ys := Nat.mul_le_mul_left _ h1
  rw [Nat.mul_comm (vl b ys)]
  rw [Nat.mul_add] at h6
  omega
theorem DivRel.step {b : Nat} {ys : List Nat} {m q U : Nat} {L L' Q : List Nat} {j : Nat} (h : DivRel b ys m q U L Q (j + 1)) (dy : Dig b ys) (hj : j + ys.length + 1 ≤ m + 1) (hq : j < q) (hV : 0 < vl b ys)
    (hW : WinEq L L' j ys.length) (dL : Dig b L') (hs : vl b ((L'.drop j).take (ys.length + 1)) = vl b ((L.drop j).take (ys.length + 1)) % vl b ys) :
    DivRel b ys m q U L' (Q.set j (vl b ((L.drop j).take (ys.length + 1)) / vl b ys)) j := by
  obtain ⟨hz, hX, hlt⟩ := h.win dy hj
  have hlen := h.len
  have hlen' := hW.len
  have hql := h.qlen
  have h4 := vl_split (b := b) (L'.drop j) (ys.length + 1) (by simp; omega)
  rw [List.drop_drop, show j + (ys.length + 1) = j + ys.length + 1 by omega, hW.high, hz, Nat.mul_zero, Nat.add_zero, hs] at h4
  have hd : vl b ((L.drop j).take (ys.length + 1)) / vl b ys < b := by
    rw [Nat.div_lt_iff_lt_mul hV, Nat.mul_comm]; exact hlt
  refine ⟨by omega, by rw [List.length_set, hql], dL, dig_set h.qdig _ hd, by rw [h4]; exact Nat.mod_lt _ hV, ?_⟩
  have h5 := vl_split (b := b) L j (by omega)
  have h6 := vl_split (b := b) L' j (by omega)
  rw [hW.low, h4] at h6
  have h7 := h.val
  rw [vl_drop _ j (by rw [List.length_set]; omega), getD_set_eq (by omega), List.drop_set_of_lt (by omega), h6]
  rw [h5, hX] at h7
  obtain ⟨X, hXe⟩ : ∃ X, vl b ((L.drop j).take (ys.length + 1)) = X := ⟨_, rfl⟩
  obtain ⟨V, hVe⟩ : ∃ V, vl b ys = V := ⟨_, rfl⟩
  obtain ⟨T, hT⟩ : ∃ T, vl b (Q.drop (j + 1)) = T := ⟨_, rfl⟩
  rw [hXe, hVe, hT] at h7 ⊢
  rw [← h7]
  have h8 : V * (b ^ j * (X / V + b * T)) = b ^ j * (V * (X / V)) + V * (b ^ (j + 1) * T) := by
    rw [Nat.pow_succ, Nat.mul_add, Nat.mul_add, Nat.mul_left_comm, Nat.mul_assoc (b ^ j)]
  have h9 : b ^ j * X = b ^ j * (X % V) + b ^ j * (V * (X / V)) := by
    rw [← Nat.mul_add, Nat.mod_add_div]
  rw [h8, h9]
  omega
theorem DivRel.done {b : Nat} {ys : List Nat} {m q U : Nat} {L Q : List Nat} (h : DivRel b ys m q U L Q 0) : vl b Q = U / vl b ys ∧ vl b L = U % vl b ys := by
  have h1 := h.val
  have h2 := h.low
  rw [Nat.pow_zero, Nat.one_mul, List.drop_zero] at h1
  rw [List.drop_zero] at h2
  have hV : 0 < vl b ys := by omega
  rw [← h1, Nat.add_comm, Nat.mul_add_div hV, Nat.mul_add_mod, Nat.div_eq_of_lt h2, Nat.mod_eq_of_lt h2]
  exact ⟨rfl, rfl⟩
theorem DivRel.start {b : Nat} (hb : 0 < b) {ys zs : List Nat} {q : Nat} (dz : Dig b zs) (ty : Top ys) (h0 : ys ≠ []) (hq : q + ys.length = zs.length + 1) :
    DivRel b ys zs.length q (vl b zs) (zs ++ [0]) (List.replicate q 0) q := by
  have hp := vl_pos (b := b) ty h0
  have hl : 0 < ys.length := List.length_pos_iff.2 h0
  have hv : vl b (zs ++ [0]) = vl b zs := by rw [vl_append]; simp [vl]
  refine ⟨by simp, by simp, dig_append dz (fun x hx => by simp at hx; omega), dig_zeros hb _, ?_, by rw [hv]; simp [vl]⟩
  rw [List.drop_append_of_le_length (by omega), vl_append]
  have h1 := vl_lt (dig_drop dz q)
  rw [List.length_drop, show zs.length - q = ys.length - 1 by omega] at h1
  simp only [vl, Nat.mul_zero, Nat.add_zero]
  omega
/-- What was shifted on both sides. -/
theorem shifted_div (X Y s : Nat) : X * 2 ^ s / (Y * 2 ^ s) = X / Y ∧ X * 2 ^ s % (Y * 2 ^ s) / 2 ^ s = X % Y := by
  have hp : 0 < 2 ^ s := Nat.two_pow_pos s
  refine ⟨Nat.mul_div_mul_right _ _ hp, ?_⟩
  rw [Nat.mul_mod_mul_right, Nat.mul_div_cancel _ hp]
end Go.Cal
