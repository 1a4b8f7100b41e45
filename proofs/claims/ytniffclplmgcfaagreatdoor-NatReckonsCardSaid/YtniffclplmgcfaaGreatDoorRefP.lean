/- Plain numbers for the document's half words. Conditions: none. -/
import Derived.Test.YtniffclplmgcfaaGreatDoorNum
namespace Go.Cal
theorem vl_ext {b : Nat} : ∀ {xs ys : List Nat}, (∀ j, xs.getD j 0 = ys.getD j 0) → vl b xs = vl b ys
  | [], [], _ => rfl
  | [], y :: ys, h => by
    have h0 := h 0
    have ih := vl_ext (b := b) (xs := []) (ys := ys) (fun j => by have := h (j + 1); simpa using this)
    simp at h0
    simp only [vl] at ih ⊢
    rw [← h0, ← ih]; simp
  | x :: xs, [], h => by
    have h0 := h 0
    have ih := vl_ext (b := b) (xs := xs) (ys := []) (fun j => by have := h (j + 1); simpa using this)
    simp at h0
    simp only [vl] at ih ⊢
    rw [h0, ih]; simp
  | x :: xs, y :: ys, h => by
    have h0 := h 0
    have ih := vl_ext (b := b) (xs := xs) (ys := ys) (fun j => by have := h (j + 1); simpa using this)
    simp at h0
    simp only [vl]
    rw [h0, ih]
theorem vl_cut {b : Nat} (xs : List Nat) (m : Nat) : vl b xs = vl b (xs.take m) + b ^ m * (xs.getD m 0 + b * vl b (xs.drop (m + 1))) := by
  rcases Nat.lt_or_ge m xs.length with h | h
  · rw [vl_split xs m (by omega), vl_drop xs m h]
  · rw [List.take_of_length_le h, List.drop_eq_nil_of_le (by omega)]
    simp [List.getD_eq_getElem?_getD, List.getElem?_eq_none h, vl]
theorem take_lt {b : Nat} (hb : 0 < b) {xs : List Nat} (d : Dig b xs) (m : Nat) : vl b (xs.take m) < b ^ m := by
  have h1 := vl_lt (dig_take d m)
  have h2 : b ^ (xs.take m).length ≤ b ^ m := Nat.pow_le_pow_right hb (by rw [List.length_take]; omega)
  omega
/-- The greatest place at which two rows differ decides. -/
theorem lex_lt {b : Nat} (hb : 0 < b) {xs ys : List Nat} {m : Nat} (dx : Dig b xs) (he : ∀ j, m < j → xs.getD j 0 = ys.getD j 0) (h : xs.getD m 0 < ys.getD m 0) : vl b xs < vl b ys := by
  rw [vl_cut xs m, vl_cut ys m]
  have h1 := take_lt hb dx m
  have h2 : vl b (xs.drop (m + 1)) = vl b (ys.drop (m + 1)) := vl_ext fun j => by
    have := he (m + 1 + j) (by omega)
    simpa [List.getD_eq_getElem?_getD, List.getElem?_drop] using this
  rw [h2]
  generalize vl b (ys.drop (m + 1)) = V
  have h3 : b ^ m * (xs.getD m 0 + b * V + 1) ≤ b ^ m * (ys.getD m 0 + b * V) := Nat.mul_le_mul_left _ (by omega)
  rw [Nat.mul_add (b ^ m) (xs.getD m 0 + b * V) 1, Nat.mul_one] at h3
  omega
/-- Words as half words. -/
def halves (H : Nat) : List Nat → List Nat
  | [] => []
  | x :: l => x % H :: x / H :: halves H l
theorem halves_length (H : Nat) : ∀ l, (halves H l).length = 2 * l.length
  | [] => rfl
  | x :: l => by simp [halves, halves_length H l]; omega
theorem halves_snoc (H : Nat) : ∀ l x, halves H (l ++ [x]) = halves H l ++ [x % H, x / H]
  | [], _ => rfl
  | y :: l, x => by simp [halves, halves_snoc H l x]
theorem halves_dig {H : Nat} (hH : 0 < H) : ∀ {l : List Nat}, Dig (H * H) l → Dig H (halves H l)
  | [], _ => fun x hx => by simp [halves] at hx
  | y :: l, h => fun x hx => by
    have hy := h y (by simp)
    simp only [halves, List.mem_cons] at hx
    rcases hx with rfl | rfl | hx
    · exact Nat.mod_lt _ hH
    · exact Nat.div_lt_of_lt_mul hy
    · exact halves_dig hH (fun z hz => h z (by simp [hz])) x hx
theorem halves_val (H : Nat) : ∀ l, vl H (halves H l) = vl (H * H) l
  | [] => rfl
  | x :: l => by
    simp only [halves, vl, halves_val H l]
    rw [Nat.mul_add, ← Nat.mul_assoc, ← Nat.add_assoc, Nat.mod_add_div]
theorem take_snoc (xs : List Nat) (i : Nat) (h : i < xs.length) : xs.take (i + 1) = xs.take i ++ [xs.getD i 0] := by
  rw [List.take_succ_eq_append_getElem h, List.getD_eq_getElem?_getD, List.getElem?_eq_getElem h]; rfl
theorem vl_snoc {b : Nat} (L : List Nat) (x : Nat) : vl b (L ++ [x]) = vl b L + b ^ L.length * x := by rw [vl_append]; simp [vl]
/-- The sum, at the head of a round. -/
structure PlusRel (H : Nat) (xs ys L : List Nat) (i c : Nat) : Prop where
  len : L.length = i
  dig : Dig H L
  car : c ≤ 1
  val : vl H L + H ^ i * c = vl H (xs.take i) + vl H (ys.take i)
theorem PlusRel.start (H : Nat) (xs ys : List Nat) : PlusRel H xs ys [] 0 0 := ⟨rfl, fun x hx => by simp at hx, by omega, by simp [vl]⟩
theorem PlusRel.step {H : Nat} {xs ys L : List Nat} {i c x y : Nat} (h : PlusRel H xs ys L i c) (hx : xs.getD i 0 = x) (hy : ys.getD i 0 = y) (bx : x < H) (by' : y < H) :
    PlusRel H xs ys (L ++ [(x + y + c) % H]) (i + 1) ((x + y + c) / H) := by
  have hH : 0 < H := by omega
  have hc := h.car
  refine ⟨by simp [h.len], dig_append h.dig (fun z hz => by simp at hz; subst hz; exact Nat.mod_lt _ hH), ?_, ?_⟩
  · have : (x + y + c) / H < 2 := (Nat.div_lt_iff_lt_mul hH).2 (by omega)
    omega
  · rw [vl_snoc, h.len, vl_getD, vl_getD, hx, hy]
    have := sum_step h.val (show x + y + c = (x + y + c) % H + H * ((x + y + c) / H) by rw [Nat.mod_add_div])
    rw [Nat.pow_succ]
    omega
theorem PlusRel.done {H : Nat} {xs ys L : List Nat} {i : Nat} (h : PlusRel H xs ys L i 0) (h1 : xs.length ≤ i) (h2 : ys.length ≤ i) : vl H L = vl H xs + vl H ys := by
  have := h.val
  rw [vl_take_all _ _ h1, vl_take_all _ _ h2] at this
  omega
/-- The difference, at the head of a round. -/
structure MinusRel (H : Nat) (xs ys L : List Nat) (i c : Nat) : Prop where
  len : L.length = i
  dig : Dig H L
  car : c ≤ 1
  val : vl H L + vl H (ys.take i) = vl H (xs.take i) + H ^ i * c
theorem MinusRel.start (H : Nat) (xs ys : List Nat) : MinusRel H xs ys [] 0 0 := ⟨rfl, fun x hx => by simp at hx, by omega, by simp [vl]⟩
theorem MinusRel.step {H : Nat} {xs ys L : List Nat} {i c x y : Nat} (h : MinusRel H xs ys L i c) (hx : xs.getD i 0 = x) (hy : ys.getD i 0 = y) (bx : x < H) (by' : y < H) :
    MinusRel H xs ys (L ++ [(x + H - y - c) % H]) (i + 1) (1 - (x + H - y - c) / H) := by
  have hH : 0 < H := by omega
  have hc := h.car
  have hq : (x + H - y - c) / H < 2 := (Nat.div_lt_iff_lt_mul hH).2 (by omega)
  have hm := Nat.mod_add_div (x + H - y - c) H
  have hl := Nat.mod_lt (x + H - y - c) hH
  generalize (x + H - y - c) / H = q at *
  generalize (x + H - y - c) % H = s at *
  have hs : s + y + c = x + H * (1 - q) := by
    have : q = 0 ∨ q = 1 := by omega
    rcases this with rfl | rfl
    · simp at hm ⊢; omega
    · simp at hm ⊢; omega
  refine ⟨by simp [h.len], dig_append h.dig (fun z hz => by simp at hz; omega), by omega, ?_⟩
  rw [vl_snoc, h.len, vl_getD, vl_getD, hx, hy]
  have := diff_step h.val hs
  rw [Nat.pow_succ]
  omega
theorem MinusRel.done {H : Nat} {xs ys L : List Nat} {c : Nat} (h : MinusRel H xs ys L xs.length c) (h2 : ys.length ≤ xs.length) (hle : vl H ys ≤ vl H xs) : vl H L = vl H xs - vl H ys := by
  have h3 := h.val
  rw [vl_take_all _ _ (Nat.le_refl _), vl_take_all _ _ h2] at h3
  have h4 := vl_lt h.dig
  rw [h.len] at h4
  have h5 := h.car
  have h6 : c = 0 ∨ c = 1 := by omega
  rcases h6 with rfl | rfl
  · omega
  · rw [Nat.mul_one] at h3
    omega
end Go.Cal
