/- Plain numbers for the document's half words. Conditions: none. -/
/- Plain numbers for the document's products and shifts of half words. Conditions: none. -/
import Derived.Test.YtncfbleeidjflaaGreatDoorPz00
namespace Go.Cal
theorem vl_ext {b : Nat} : ∀ {xs ys : List Nat}, (∀ j, xs.getD j 0 = ys.getD j 0) → vl b xs = vl b ys
  | [], [], _ => rfl
  | [], y :: ys, h => by
    have h0 := h 0
    have ih := vl_ext (b := b) (xs := []) (ys := ys) (fun j => by have := h (j + 1); simpa using this)
    simp at h0
    simp only [vl] at ih ⊢
    rw [← h0, ← ih]; simp
  | x :: xs, [], h => by
    have h0 := h 0
    have ih := vl_ext (b := b) (xs := xs) (ys := []) (fun j => by have := h (j + 1); simpa using this)
    simp at h0
    simp only [vl] at ih ⊢
    rw [h0, ih]; simp
  | x :: xs, y :: ys, h => by
    have h0 := h 0
    have ih := vl_ext (b := b) (xs := xs) (ys := ys) (fun j => by have := h (j + 1); simpa using this)
    simp at h0
    simp only [vl]
    rw [h0, ih]
theorem vl_cut {b : Nat} (xs : List Nat) (m : Nat) : vl b xs = vl b (xs.take m) + b ^ m * (xs.getD m 0 + b * vl b (xs.drop (m + 1))) := by
  rcases Nat.lt_or_ge m xs.length with h | h
  · rw [vl_split xs m (by omega), vl_drop xs m h]
  · rw [List.take_of_length_le h, List.drop_eq_nil_of_le (by omega)]
    simp [List.getD_eq_getElem?_getD, List.getElem?_eq_none h, vl]
theorem take_lt {b : Nat} (hb : 0 < b) {xs : List Nat} (d : Dig b xs) (m : Nat) : vl b (xs.take m) < b ^ m := by
  have h1 := vl_lt (dig_take d m)
  have h2 : b ^ (xs.take m).length ≤ b ^ m := Nat.pow_le_pow_right hb (by rw [List.length_take]; omega)
  omega
/-- The greatest place at which two rows differ decides. -/
theorem lex_lt {b : Nat} (hb : 0 < b) {xs ys : List Nat} {m : Nat} (dx : Dig b xs) (he : ∀ j, m < j → xs.getD j 0 = ys.getD j 0) (h : xs.getD m 0 < ys.getD m 0) : vl b xs < vl b ys := by
  rw [vl_cut xs m, vl_cut ys m]
  have h1 := take_lt hb dx m
  have h2 : vl b (xs.drop (m + 1)) = vl b (ys.drop (m + 1)) := vl_ext fun j => by
    have := he (m + 1 + j) (by omega)
    simpa [List.getD_eq_getElem?_getD, List.getElem?_drop] using this
  rw [h2]
  generalize vl b (ys.drop (m + 1)) = V
  have h3 : b ^ m * (xs.getD m 0 + b * V + 1) ≤ b ^ m * (ys.getD m 0 + b * V) := Nat.mul_le_mul_left _ (by omega)
  rw [Nat.mul_add (b ^ m) (xs.getD m 0 + b * V) 1, Nat.mul_one] at h3
  omega
/-- Words as half words. -/
def halves (H : Nat) : List Nat → List Nat
  | [] => []
  | x :: l => x % H :: x / H :: halves H l
theorem halves_length (H : Nat) : ∀ l, (halves H l).length = 2 * l.length
  | [] => rfl
  | x :: l => by simp [halves, halves_length H l]; omega
theorem halves_snoc (H : Nat) : ∀ l x, halves H (l ++ [x]) = halves H l ++ [x % H, x / H]
  | [], _ => rfl
  | y :: l, x => by simp [halves, halves_snoc H l x]
theorem halves_dig {H : Nat} (hH : 0 < H) : ∀ {l : List Nat}, Dig (H * H) l → Dig H (halves H l)
  | [], _ => fun x hx => by simp [halves] at hx
  | y :: l, h => fun x hx => by
    have hy := h y (by simp)
    simp only [halves, List.mem_cons] at hx
    rcases hx with rfl | rfl | hx
    · exact Nat.mod_lt _ hH
    · exact Nat.div_lt_of_lt_mul hy
    · exact halves_dig hH (fun z hz => h z (by simp [hz])) x hx
theorem halves_val (H : Nat) : ∀ l, vl H (halves H l) = vl (H * H) l
  | [] => rfl
  | x :: l => by
    simp only [halves, vl, halves_val H l]
    rw [Nat.mul_add, ← Nat.mul_assoc, ← Nat.add_assoc, Nat.mod_add_div]
theorem take_snoc (xs : List Nat) (i : Nat) (h : i < xs.length) : xs.take (i + 1) = xs.take i ++ [xs.getD i 0] := by
  rw [List.take_succ_eq_append_getElem h, List.getD_eq_getElem?_getD, List.getElem?_eq_getElem h]; rfl
theorem vl_snoc {b : Nat} (L : List Nat) (x : Nat) : vl b (L ++ [x]) = vl b L + b ^ L.length * x := by rw [vl_append]; simp [vl]
/-- The sum, at the head of a round. -/
structure PlusRel (H : Nat) (xs ys L : List Nat) (i c : Nat) : Prop where
  len : L.length = i
  dig : Dig H L
  car : c ≤ 1
  val : vl H L + H ^ i * c = vl H (xs.take i) + vl H (ys.take i)
theorem PlusRel.start (H : Nat) (xs ys : List Nat) : PlusRel H xs ys [] 0 0 := ⟨rfl, fun x hx => by simp at hx, by omega, by simp [vl]⟩
theorem PlusRel.step {H : Nat} {xs ys L : List Nat} {i c x y : Nat} (h : PlusRel H xs ys L i c) (hx : xs.getD i 0 = x) (hy : ys.getD i 0 = y) (bx : x < H) (by' : y < H) :
    PlusRel H xs ys (L ++ [(x + y + c) % H]) (i + 1) ((x + y + c) / H) := by
  have hH : 0 < H := by omega
  have hc := h.car
  refine ⟨by simp [h.len], dig_append h.dig (fun z hz => by simp at hz; subst hz; exact Nat.mod_lt _ hH), ?_, ?_⟩
  · have : (x + y + c) / H < 2 := (Nat.div_lt_iff_lt_mul hH).2 (by omega)
    omega
  · rw [vl_snoc, h.len, vl_getD, vl_getD, hx, hy]
    have := sum_step h.val (show x + y + c = (x + y + c) % H + H * ((x + y + c) / H) by rw [Nat.mod_add_div])
    rw [Nat.pow_succ]
    omega
theorem PlusRel.done {H : Nat} {xs ys L : List Nat} {i : Nat} (h : PlusRel H xs ys L i 0) (h1 : xs.length ≤ i) (h2 : ys.length ≤ i) : vl H L = vl H xs + vl H ys := by
  have := h.val
  rw [vl_take_all _ _ h1, vl_take_all _ _ h2] at this
  omega
/-- The difference, at the head of a round. -/
structure MinusRel (H : Nat) (xs ys L : List Nat) (i c : Nat) : Prop where
  len : L.length = i
  dig : Dig H L
  car : c ≤ 1
  val : vl H L + vl H (ys.take i) = vl H (xs.take i) + H ^ i * c
theorem MinusRel.start (H : Nat) (xs ys : List Nat) : MinusRel H xs ys [] 0 0 := ⟨rfl, fun x hx => by simp at hx, by omega, by simp [vl]⟩
theorem MinusRel.step {H : Nat} {xs ys L : List Nat} {i c x y : Nat} (h : MinusRel H xs ys L i c) (hx : xs.getD i 0 = x) (hy : ys.getD i 0 = y) (bx : x < H) (by' : y < H) :
    MinusRel H xs ys (L ++ [(x + H - y - c) % H]) (i + 1) (1 - (x + H - y - c) / H) := by
  have hH : 0 < H := by omega
  have hc := h.car
  have hq : (x + H - y - c) / H < 2 := (Nat.div_lt_iff_lt_mul hH).2 (by omega)
  have hm := Nat.mod_add_div (x + H - y - c) H
  have hl := Nat.mod_lt (x + H - y - c) hH
  generalize (x + H - y - c) / H = q at *
  generalize (x + H - y - c) % H = s at *
  have hs : s + y + c = x + H * (1 - q) := by
    have : q = 0 ∨ q = 1 := by omega
    rcases this with rfl | rfl
    · simp at hm ⊢; omega
    · simp at hm ⊢; omega
  refine ⟨by simp [h.len], dig_append h.dig (fun z hz => by simp at hz; omega), by omega, ?_⟩
  rw [vl_snoc, h.len, vl_getD, vl_getD, hx, hy]
  have := diff_step h.val hs
  rw [Nat.pow_succ]
  omega
theorem MinusRel.done {H : Nat} {xs ys L : List Nat} {c : Nat} (h : MinusRel H xs ys L xs.length c) (h2 : ys.length ≤ xs.length) (hle : vl H ys ≤ vl H xs) : vl H L = vl H xs - vl H ys := by
  have h3 := h.val
  rw [vl_take_all _ _ (Nat.le_refl _), vl_take_all _ _ h2] at h3
  have h4 := vl_lt h.dig
  rw [h.len] at h4
  have h5 := h.car
  have h6 : c = 0 ∨ c = 1 := by omega
  rcases h6 with rfl | rfl
  · omega
  · rw [Nat.mul_one] at h3
    omega
end Go.Cal
namespace Go.Cal
/-- A row of the product, at its beginning. -/
structure TimesRow (H : Nat) (xs ys L : List Nat) (i : Nat) : Prop where
  len : L.length = xs.length + ys.length + 1
  dig : Dig H L
  zero : ∀ j, i + ys.length ≤ j → L.getD j 0 = 0
  val : vl H L = vl H (xs.take i) * vl H ys
theorem TimesRow.start {H : Nat} (hH : 0 < H) (xs ys : List Nat) : TimesRow H xs ys (List.replicate (xs.length + ys.length + 1) 0) 0 :=
  ⟨by simp, dig_zeros hH _, fun j _ => by simp [List.getD_eq_getElem?_getD, List.getElem?_replicate]; split <;> rfl, by rw [vl_zeros]; simp [vl]⟩
/-- Within a row. -/
structure TimesIn (H : Nat) (xs ys L : List Nat) (i x k c : Nat) : Prop where
  len : L.length = xs.length + ys.length + 1
  dig : Dig H L
  zero : ∀ j, i + ys.length < j ∨ (j = i + ys.length ∧ k ≤ ys.length) → L.getD j 0 = 0
  car : c < H
  kle : k ≤ ys.length + 1
  last : k = ys.length + 1 → c = 0
  val : vl H L + H ^ i * H ^ k * c = vl H (xs.take i) * vl H ys + H ^ i * (x * vl H (ys.take k))
theorem TimesRow.into {H : Nat} (hH : 0 < H) {xs ys L : List Nat} {i : Nat} (h : TimesRow H xs ys L i) (x : Nat) : TimesIn H xs ys L i x 0 0 :=
  ⟨h.len, h.dig, fun j hj => h.zero j (by omega), hH, by omega, fun _ => rfl, by rw [h.val]; simp [vl]⟩
theorem TimesIn.step {H : Nat} {xs ys L : List Nat} {i x k c y o : Nat} (h : TimesIn H xs ys L i x k c) (hi : i < xs.length) (hk : k ≤ ys.length) (hx : x < H) (hy : ys.getD k 0 = y) (by' : y < H) (ho : L.getD (i + k) 0 = o) :
    TimesIn H xs ys (L.set (i + k) ((x * y + o + c) % H)) i x (k + 1) ((x * y + o + c) / H) := by
  have hH : 0 < H := by omega
  have hlen := h.len
  have hc := h.car
  have hoH : o < H := ho ▸ dig_getD hH h.dig _
  have hS : x * y + o + c < H * H := by
    have h1 : x * y ≤ (H - 1) * (H - 1) := Nat.mul_le_mul (by omega) (by omega)
    obtain ⟨g, rfl⟩ : ∃ g, H = g + 1 := ⟨H - 1, by omega⟩
    simp only [Nat.add_sub_cancel] at h1
    have h2 : (g + 1) * (g + 1) = g * g + g + g + 1 := by rw [Nat.add_mul, Nat.mul_add]; omega
    omega
  have hset := vl_set (b := H) L (i + k) ((x * y + o + c) % H) (by omega)
  rw [ho] at hset
  have hm := Nat.mod_add_div (x * y + o + c) H
  refine ⟨by rw [List.length_set]; exact hlen, dig_set h.dig _ (Nat.mod_lt _ hH), fun j hj => ?_, Nat.div_lt_of_lt_mul hS, by omega, fun e => ?_, ?_⟩
  · rw [getD_set_ne (by omega)]
    exact h.zero j (by omega)
  · have hke : k = ys.length := by omega
    have hy0 : y = 0 := by rw [← hy, hke]; simp [List.getD_eq_getElem?_getD]
    have ho0 : o = 0 := by rw [← ho, hke]; exact h.zero _ (.inr ⟨rfl, by omega⟩)
    rw [hy0, ho0, Nat.mul_zero, Nat.zero_add]
    exact Nat.div_eq_of_lt hc
  · have hv := h.val
    rw [Nat.pow_add] at hset
    rw [vl_getD, hy, Nat.pow_succ]
    generalize (x * y + o + c) / H = q at *
    generalize (x * y + o + c) % H = s at *
    generalize vl H (L.set (i + k) s) = VL at *
    generalize vl H L = V at *
    generalize vl H (ys.take k) = W at *
    generalize vl H (xs.take i) * vl H ys = A at *
    generalize H ^ i = P at *
    generalize H ^ k = Q at *
    have e1 : P * Q * s + P * (Q * H) * q = P * Q * (x * y) + P * Q * o + P * Q * c := by
      rw [show P * (Q * H) * q = P * Q * (H * q) by simp only [Nat.mul_assoc], ← Nat.mul_add, hm, Nat.mul_add, Nat.mul_add]
    have e2 : P * (x * (W + Q * y)) = P * (x * W) + P * Q * (x * y) := by
      rw [Nat.mul_add x, Nat.mul_add P]
      congr 1
      simp only [Nat.mul_assoc, Nat.mul_left_comm]
    rw [e2]
    omega
theorem TimesIn.out {H : Nat} {xs ys L : List Nat} {i x k : Nat} (h : TimesIn H xs ys L i x k 0) (hx : xs.getD i 0 = x) (hk : ys.length ≤ k) : TimesRow H xs ys L (i + 1) := by
  refine ⟨h.len, h.dig, fun j hj => h.zero j (.inl (by omega)), ?_⟩
  have := h.val
  rw [Nat.mul_zero, Nat.add_zero, vl_take_all ys k hk] at this
  rw [this, vl_getD, hx, Nat.add_mul, Nat.mul_assoc]
/-- Shifted up, at the head of a round. -/
structure UpRel (H : Nat) (xs L : List Nat) (q p i c : Nat) : Prop where
  len : L.length = q + i
  dig : Dig H L
  car : c < p
  val : vl H L + H ^ (q + i) * c = vl H (xs.take i) * p * H ^ q
theorem UpRel.start {H : Nat} (hH : 0 < H) (xs : List Nat) (q : Nat) {p : Nat} (hp : 0 < p) : UpRel H xs (List.replicate q 0) q p 0 0 :=
  ⟨by simp, dig_zeros hH _, hp, by rw [vl_zeros]; simp [vl]⟩
theorem UpRel.step {H : Nat} {xs L : List Nat} {q p i c x : Nat} (h : UpRel H xs L q p i c) (hx : xs.getD i 0 = x) (bx : x < H) : UpRel H xs (L ++ [(x * p + c) % H]) q p (i + 1) ((x * p + c) / H) := by
  have hH : 0 < H := by omega
  have hc := h.car
  have hm := Nat.mod_add_div (x * p + c) H
  refine ⟨by simp [h.len]; omega, dig_append h.dig (fun z hz => by simp at hz; subst hz; exact Nat.mod_lt _ hH), ?_, ?_⟩
  · refine (Nat.div_lt_iff_lt_mul hH).2 ?_
    have : (x + 1) * p ≤ H * p := Nat.mul_le_mul_right _ bx
    rw [Nat.add_mul] at this
    rw [Nat.mul_comm p H]
    omega
  · have hv := h.val
    rw [vl_snoc, h.len, vl_getD, hx, show q + (i + 1) = q + i + 1 by omega, Nat.pow_succ]
    generalize (x * p + c) / H = u at *
    generalize (x * p + c) % H = s at *
    have e1 : H ^ (q + i) * s + H ^ (q + i) * H * u = H ^ (q + i) * (x * p) + H ^ (q + i) * c := by rw [Nat.mul_assoc, ← Nat.mul_add, hm, Nat.mul_add]
    have e2 : (vl H (xs.take i) + H ^ i * x) * p * H ^ q = vl H (xs.take i) * p * H ^ q + H ^ (q + i) * (x * p) := by
      rw [Nat.add_mul, Nat.add_mul]
      congr 1
      rw [Nat.pow_add]
      simp only [Nat.mul_assoc, Nat.mul_left_comm, Nat.mul_comm]
    rw [e2]
    omega
theorem UpRel.done {H : Nat} {xs L : List Nat} {q p c : Nat} (h : UpRel H xs L q p xs.length c) : vl H (L ++ [c]) = vl H xs * p * H ^ q := by
  rw [vl_snoc, h.len, h.val, vl_take_all _ _ (Nat.le_refl _)]
/-- Shifted down, at the head of a round; ys: the half words from the place on. -/
structure DownRel (H : Nat) (ys L : List Nat) (p i : Nat) : Prop where
  len : L.length = i
  dig : Dig H L
  val : vl H L * p + ys.getD 0 0 % p = vl H (ys.take i) + H ^ i * (ys.getD i 0 % p)
theorem DownRel.start (H : Nat) (ys : List Nat) (p : Nat) : DownRel H ys [] p 0 := ⟨rfl, fun x hx => by simp at hx, by simp [vl]⟩
theorem DownRel.step {H : Nat} {ys L : List Nat} {p i o : Nat} (h : DownRel H ys L p i) (ho : o < H) (he : o * p + ys.getD i 0 % p = ys.getD i 0 + H * (ys.getD (i + 1) 0 % p)) : DownRel H ys (L ++ [o]) p (i + 1) := by
  refine ⟨by simp [h.len], dig_append h.dig (fun z hz => by simp at hz; omega), ?_⟩
  have hv := h.val
  rw [vl_snoc, h.len, vl_getD, Nat.add_mul, Nat.pow_succ]
  have e1 : H ^ i * o * p + H ^ i * (ys.getD i 0 % p) = H ^ i * ys.getD i 0 + H ^ i * H * (ys.getD (i + 1) 0 % p) := by
    rw [Nat.mul_assoc, ← Nat.mul_add, he, Nat.mul_add, Nat.mul_assoc]
  omega
theorem DownRel.done {H : Nat} {ys L : List Nat} {p : Nat} (h : DownRel H ys L p ys.length) (hp : 0 < p) : vl H L = vl H ys / p := by
  have hv := h.val
  rw [vl_take_all _ _ (Nat.le_refl _), show ys.getD ys.length 0 = 0 by simp [List.getD_eq_getElem?_getD], Nat.zero_mod, Nat.mul_zero, Nat.add_zero] at hv
  rw [← hv, Nat.mul_comm, Nat.mul_add_div hp, Nat.div_eq_of_lt (Nat.mod_lt _ hp), Nat.add_zero]
end Go.Cal
