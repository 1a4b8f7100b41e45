/- The nat layer: shifts. Conditions: lengths below 2^38. -/
/- The nat layer: shifts to the right. Conditions: lengths below 2^38. -/
/- Plain numbers: one digit of a quotient, guessed and mended. -/
/- The nat layer: one digit of a quotient. Conditions: lengths below 2^38; what is divided is less than a word times the divisor. -/
import Derived.Test.YtabgfdingdmnlaaGreatDoorTells04
import Derived.Test.YtabgfdingdmnlaaGreatDoorTells00
namespace Go.Proofs.YtabgfdingdmnlaaGreatDoor
open Go.RowKit Go.Cal
/-- What stands at the head of a round of a shift: i words are shifted by q words and r bits. -/
structure ShlRel (b : Nat) (xs L : List Nat) (q p i : Nat) : Prop where
  len : L.length = xs.length + q + 1
  dig : Dig b L
  mid : L.getD (i + q) 0 < p
  zero : ∀ j, i + q < j → L.getD j 0 = 0
  val : vl b L = vl b (xs.take i) * (b ^ q * p)
theorem ShlRel.start {b : Nat} (hb : 0 < b) (xs : List Nat) (q p : Nat) (hp : 0 < p) : ShlRel b xs (List.replicate (xs.length + q + 1) 0) q p 0 := by
  have hz : ∀ j, (List.replicate (xs.length + q + 1) 0).getD j 0 = 0 := fun j => by
    simp [List.getD_eq_getElem?_getD, List.getElem?_replicate]; split <;> rfl
  exact ⟨by simp, dig_zeros hb _, by rw [hz]; exact hp, fun j _ => hz j, by simp [vl, vl_zeros]⟩
theorem ShlRel.step {b : Nat} {xs L : List Nat} {q p i x : Nat} (h : ShlRel b xs L q p i) (hi : i < xs.length) (hx : xs.getD i 0 = x) (hxb : x < b) (hp : 0 < p) (hs : L.getD (i + q) 0 + x * p % b < b) (hpb : p ≤ b) :
    ShlRel b xs ((L.set (i + q) (L.getD (i + q) 0 + x * p % b)).set (i + q + 1) (x * p / b)) q p (i + 1) := by
  have hb : 0 < b := by omega
  have hlt : x * p / b < p := by
    rw [Nat.div_lt_iff_lt_mul hb, Nat.mul_comm p b]
    exact Nat.mul_lt_mul_of_pos_right hxb hp
  have hlen := h.len
  have hz := h.zero (i + q + 1) (by omega)
  refine ⟨by simp [hlen], dig_set (dig_set h.dig _ hs) _ (by omega), ?_, fun j hj => ?_, ?_⟩
  · rw [show i + 1 + q = i + q + 1 by omega, getD_set_eq (by simp; omega)]; exact hlt
  · rw [Go.Cal.getD_set_ne (by omega), Go.Cal.getD_set_ne (by omega)]; exact h.zero j (by omega)
  · have h1 := vl_set (b := b) (L.set (i + q) (L.getD (i + q) 0 + x * p % b)) (i + q + 1) (x * p / b) (by simp; omega)
    have h2 := vl_set (b := b) L (i + q) (L.getD (i + q) 0 + x * p % b) (by omega)
    rw [Go.Cal.getD_set_ne (by omega), hz, Nat.mul_zero, Nat.add_zero] at h1
    rw [h1, vl_getD, hx, Nat.add_mul, ← h.val]
    rw [Nat.mul_add] at h2
    have h3 : b ^ (i + q) * (x * p % b) + b ^ (i + q + 1) * (x * p / b) = b ^ i * x * (b ^ q * p) := by
      rw [Nat.pow_succ, Nat.mul_assoc, ← Nat.mul_add, Nat.mod_add_div, Nat.pow_add]
      simp only [Nat.mul_assoc, Nat.mul_left_comm]
    omega
theorem shl_word {o x r : Nat} (hr : r < 64) (ho : o < 2 ^ r) :
    bits .or .u64 (o : Int) (IntKind.u64.wrap ((x : Int) * 2 ^ r)) = ((o + x * 2 ^ r % 18446744073709551616 : Nat) : Int) ∧ (x : Int) / 2 ^ (64 - r) = ((x * 2 ^ r / 18446744073709551616 : Nat) : Int) ∧ o + x * 2 ^ r % 18446744073709551616 < 18446744073709551616 ∧ 2 ^ r ≤ 18446744073709551616 := by
  have hp := Nat.two_pow_pos r
  have e64 : 2 ^ (64 - r) * 2 ^ r = 18446744073709551616 := by rw [← Nat.pow_add, show 64 - r + r = 64 by omega]
  have hple : 2 ^ r ≤ 18446744073709551616 := by
    have := Nat.two_pow_pos (64 - r)
    have := Nat.mul_le_mul_right (2 ^ r) this
    omega
  have hm : x * 2 ^ r % 18446744073709551616 % 2 ^ r = 0 := by
    rw [← e64, Nat.mul_mod_mul_right, Nat.mul_mod_left]
  have hlt := Nat.mod_lt (x * 2 ^ r) (show 0 < 18446744073709551616 by omega)
  have hob : o + x * 2 ^ r % 18446744073709551616 < 18446744073709551616 := by
    have hd : 2 ^ r ∣ x * 2 ^ r % 18446744073709551616 := Nat.dvd_of_mod_eq_zero hm
    obtain ⟨k, hk⟩ := hd
    have h2 : 2 ^ r * k < 2 ^ r * 2 ^ (64 - r) := by rw [← hk, Nat.mul_comm (2 ^ r) (2 ^ (64 - r)), e64]; exact hlt
    have h3 : k + 1 ≤ 2 ^ (64 - r) := Nat.lt_of_mul_lt_mul_left h2
    have h4 := Nat.mul_le_mul_left (2 ^ r) h3
    rw [Nat.mul_add, ← hk, Nat.mul_comm (2 ^ r) (2 ^ (64 - r)), e64] at h4
    omega
  refine ⟨?_, ?_, hob, hple⟩
  · have e1 : (x : Int) * 2 ^ r = ((x * 2 ^ r : Nat) : Int) := by push_cast; rfl
    rw [e1, wrap_u64, show ((x * 2 ^ r : Nat) : Int) % 18446744073709551616 = ((x * 2 ^ r % 18446744073709551616 : Nat) : Int) by omega, u64_or_nat _ _ (by omega) hlt, Nat.or_comm, nat_join r _ _ hm ho, Nat.add_comm]
  · rw [← e64, Nat.mul_div_mul_right _ _ hp]; push_cast; rfl
theorem pow64 {n q r : Nat} (hq : n / 64 = q) (hr : n % 64 = r) : 18446744073709551616 ^ q * 2 ^ r = 2 ^ n := by
  rw [show 18446744073709551616 = 2 ^ 64 from rfl, ← Nat.pow_mul, ← Nat.pow_add]
  congr 1; omega
end Go.Proofs.YtabgfdingdmnlaaGreatDoor
namespace Go.Proofs.YtabgfdingdmnlaaGreatDoor
open Go.RowKit Go.Cal
structure ShrRel (b : Nat) (ys L : List Nat) (p i : Nat) : Prop where
  len : L.length = ys.length
  dig : Dig b L
  val : vl b (L.take i) * p + ys.getD 0 0 % p = vl b (ys.take i) + b ^ i * (ys.getD i 0 % p)
theorem ShrRel.start {b : Nat} (hb : 0 < b) (ys : List Nat) (p : Nat) : ShrRel b ys (List.replicate ys.length 0) p 0 :=
  ⟨by simp, dig_zeros hb _, by simp [vl]⟩
theorem ShrRel.step {b : Nat} {ys L : List Nat} {p i o : Nat} (h : ShrRel b ys L p i) (hi : i < ys.length) (ho : o < b) (he : o * p + ys.getD i 0 % p = ys.getD i 0 + b * (ys.getD (i + 1) 0 % p)) : ShrRel b ys (L.set i o) p (i + 1) := by
  refine ⟨by rw [List.length_set, h.len], dig_set h.dig _ ho, ?_⟩
  rw [vl_take_set (by rw [h.len]; exact hi), vl_getD, Nat.add_mul, Nat.pow_succ, Nat.mul_assoc, Nat.mul_assoc]
  have h1 := h.val
  have h2 : b ^ i * (o * p + ys.getD i 0 % p) = b ^ i * (ys.getD i 0 + b * (ys.getD (i + 1) 0 % p)) := by rw [he]
  rw [Nat.mul_add, Nat.mul_add] at h2
  omega
theorem ShrRel.done {b : Nat} {ys L : List Nat} {p : Nat} (h : ShrRel b ys L p ys.length) (hp : 0 < p) : vl b L = vl b ys / p := by
  have h1 := h.val
  rw [vl_take_all L _ (by rw [h.len]; exact Nat.le_refl _), vl_take_all ys _ (Nat.le_refl _)] at h1
  have h2 : ys.getD ys.length 0 = 0 := by simp [List.getD_eq_getElem?_getD]
  rw [h2, Nat.zero_mod, Nat.mul_zero, Nat.add_zero] at h1
  rw [← h1, Nat.mul_comm, Nat.mul_add_div hp, Nat.div_eq_of_lt (Nat.mod_lt _ hp), Nat.add_zero]
theorem shr_word {x y r : Nat} (hr : r < 64) (hx : x < 18446744073709551616) :
    ∃ o : Nat, bits .or .u64 ((x : Int) / 2 ^ r) (IntKind.u64.wrap ((y : Int) * 2 ^ (64 - r))) = (o : Int) ∧ o < 18446744073709551616 ∧ o * 2 ^ r + x % 2 ^ r = x + 18446744073709551616 * (y % 2 ^ r) := by
  have hp := Nat.two_pow_pos r
  have hp2 := Nat.two_pow_pos (64 - r)
  have e64 : 2 ^ (64 - r) * 2 ^ r = 18446744073709551616 := by rw [← Nat.pow_add, show 64 - r + r = 64 by omega]
  have h1 : x / 2 ^ r < 2 ^ (64 - r) := by rw [Nat.div_lt_iff_lt_mul hp, e64]; exact hx
  have h2 : y * 2 ^ (64 - r) % 18446744073709551616 = y % 2 ^ r * 2 ^ (64 - r) := by rw [← e64, Nat.mul_comm (2 ^ (64 - r)) (2 ^ r), Nat.mul_mod_mul_right]
  have h3 := Nat.mod_lt y hp
  have h4 : (y % 2 ^ r + 1) * 2 ^ (64 - r) ≤ 2 ^ r * 2 ^ (64 - r) := Nat.mul_le_mul_right _ h3
  rw [Nat.mul_comm (2 ^ r), e64, Nat.add_mul] at h4
  refine ⟨y % 2 ^ r * 2 ^ (64 - r) + x / 2 ^ r, ?_, by omega, ?_⟩
  · have e1 : (x : Int) / 2 ^ r = ((x / 2 ^ r : Nat) : Int) := by push_cast; rfl
    have e2 : (y : Int) * 2 ^ (64 - r) = ((y * 2 ^ (64 - r) : Nat) : Int) := by push_cast; rfl
    rw [e1, e2, wrap_u64, show ((y * 2 ^ (64 - r) : Nat) : Int) % 18446744073709551616 = ((y * 2 ^ (64 - r) % 18446744073709551616 : Nat) : Int) by omega, h2, u64_or_nat _ _ (by omega) (by omega), Nat.or_comm, nat_join (64 - r) _ _ (Nat.mul_mod_left _ _) h1]
  · rw [Nat.add_mul, Nat.mul_assoc, e64, Nat.mul_comm (y % 2 ^ r), Nat.add_assoc, Nat.div_add_mod', Nat.add_comm]
theorem getD_drop (xs : List Nat) (q i : Nat) : (xs.drop q).getD i 0 = xs.getD (i + q) 0 := by
  simp [List.getD_eq_getElem?_getD, List.getElem?_drop, Nat.add_comm]
theorem shr_value {xs : List Nat} {n q r : Nat} (d : Dig 18446744073709551616 xs) (hq : n / 64 = q) (hr : n % 64 = r) : vl 18446744073709551616 (xs.drop q) / 2 ^ r = vl 18446744073709551616 xs / 2 ^ n := by
  rw [← pow64 hq hr, ← Nat.div_div_eq_div_mul]
  congr 1
  by_cases h : q ≤ xs.length
  · have h1 := vl_split (b := 18446744073709551616) xs q h
    have h2 := vl_lt (dig_take d q)
    rw [List.length_take, Nat.min_eq_left h] at h2
    rw [h1, Nat.add_mul_div_left _ _ (Nat.pow_pos (by omega)), Nat.div_eq_of_lt h2, Nat.zero_add]
  · have h1 := vl_lt d
    have h2 : 18446744073709551616 ^ xs.length ≤ 18446744073709551616 ^ q := Nat.pow_le_pow_right (by omega) (by omega)
    rw [List.drop_of_length_le (by omega), Nat.div_eq_of_lt (by omega)]
    rfl
end Go.Proofs.YtabgfdingdmnlaaGreatDoor
namespace Go.Cal
/-- Only a window of n + 1 words from place k on may have turned. -/
structure WinEq (L0 L : List Nat) (k n : Nat) : Prop where
  len : L.length = L0.length
  low : L.take k = L0.take k
  high : L.drop (k + n + 1) = L0.drop (k + n + 1)
theorem WinEq.refl (L : List Nat) (k n : Nat) : WinEq L L k n := ⟨rfl, rfl, rfl⟩
theorem WinEq.set {L0 L : List Nat} {k n : Nat} (h : WinEq L0 L k n) (i x : Nat) (hi : i ≤ n) : WinEq L0 (L.set (k + i) x) k n :=
  ⟨by rw [List.length_set, h.len], by rw [take_set_le (by omega), h.low], by rw [List.drop_set_of_lt (by omega), h.high]⟩
theorem drop_set_in (L : List Nat) (k i x : Nat) : (L.set (k + i) x).drop k = (L.drop k).set i x := by
  rw [List.drop_set, if_neg (by omega), show k + i - k = i by omega]
theorem getD_drop' (xs : List Nat) (q i : Nat) : (xs.drop q).getD i 0 = xs.getD (q + i) 0 := by
  simp [List.getD_eq_getElem?_getD, List.getElem?_drop]
/-- At the head of a round of the subtraction: i words are done. -/
structure DSub (b : Nat) (D0 D ys : List Nat) (G i bo ca : Nat) : Prop where
  dig : Dig b D
  bo1 : bo ≤ 1
  ca1 : ca < b
  same : ∀ j, i ≤ j → D.getD j 0 = D0.getD j 0
  val : vl b (D.take i) + G * vl b (ys.take i) = vl b (D0.take i) + b ^ i * (bo + ca)
  carry : b ^ i * ca ≤ G * vl b (ys.take i)
theorem DSub.step {b : Nat} {D0 D ys : List Nat} {G i bo ca : Nat} (h : DSub b D0 D ys G i bo ca) (hi : i < D.length) {y u s bo' lo ca' : Nat} (hy : ys.getD i 0 = y) (hu : D.getD i 0 = u) (hs : s < b) (hbo : bo' ≤ 1) (hca : ca' < b)
    (h1 : s + lo + bo = u + b * bo') (h2 : G * y + ca = lo + b * ca') : DSub b D0 (D.set i s) ys G (i + 1) bo' ca' := by
  refine ⟨dig_set h.dig _ hs, hbo, hca, fun j hj => by rw [Go.Cal.getD_set_ne (by omega)]; exact h.same j (by omega), ?_, ?_⟩
  rotate_left
  · rw [vl_getD, hy, Nat.mul_add, Nat.pow_succ, Nat.mul_assoc]
    have h3 := h.carry
    have h5 : b ^ i * (G * y + ca) = b ^ i * (lo + b * ca') := by rw [h2]
    have h6 : G * (b ^ i * y) = b ^ i * (G * y) := by rw [← Nat.mul_assoc, Nat.mul_comm G, Nat.mul_assoc]
    rw [h6]
    simp only [Nat.mul_add] at h5 ⊢
    omega
  have hu0 : D0.getD i 0 = u := by rw [← h.same i (Nat.le_refl _), hu]
  rw [vl_take_set hi, vl_getD, vl_getD, hy, hu0, Nat.mul_add, Nat.pow_succ, Nat.mul_assoc]
  have h3 := h.val
  have h4 : b ^ i * (s + lo + bo) = b ^ i * (u + b * bo') := by rw [h1]
  have h5 : b ^ i * (G * y + ca) = b ^ i * (lo + b * ca') := by rw [h2]
  have h6 : G * (b ^ i * y) = b ^ i * (G * y) := by rw [← Nat.mul_assoc, Nat.mul_comm G, Nat.mul_assoc]
  rw [h6]
  simp only [Nat.mul_add] at h3 h4 h5 ⊢
  omega
/-- At the head of a round of the mending sum. -/
structure DAdd (b : Nat) (D0 D ys : List Nat) (i c : Nat) : Prop where
  dig : Dig b D
  c1 : c ≤ 1
  same : ∀ j, i ≤ j → D.getD j 0 = D0.getD j 0
  val : vl b (D.take i) + b ^ i * c = vl b (D0.take i) + vl b (ys.take i)
theorem DAdd.step {b : Nat} {D0 D ys : List Nat} {i c : Nat} (h : DAdd b D0 D ys i c) (hi : i < D.length) {y u s c' : Nat} (hy : ys.getD i 0 = y) (hu : D.getD i 0 = u) (hs : s < b) (hc : c' ≤ 1)
    (h1 : u + y + c = s + b * c') : DAdd b D0 (D.set i s) ys (i + 1) c' := by
  refine ⟨dig_set h.dig _ hs, hc, fun j hj => by rw [Go.Cal.getD_set_ne (by omega)]; exact h.same j (by omega), ?_⟩
  have hu0 : D0.getD i 0 = u := by rw [← h.same i (Nat.le_refl _), hu]
  rw [vl_take_set hi, vl_getD, vl_getD, hy, hu0, Nat.pow_succ]
  exact sum_step h.val h1
/-- A guess that is not too small. -/
theorem guess_top {b X V G vm u1 u0 : Nat} {P : Nat} (hv : vm * P ≤ V) (hX : X < (u1 * b + u0 + 1) * P) (hG : G = (u1 * b + u0) / vm) (hvm : 0 < vm) : X < (G + 1) * V := by
  have h1 : u1 * b + u0 < (G + 1) * vm := by
    rw [hG, Nat.mul_comm _ vm]; exact Nat.lt_mul_div_succ _ hvm
  have h2 : (u1 * b + u0 + 1) * P ≤ (G + 1) * vm * P := Nat.mul_le_mul_right _ h1
  have h3 : (G + 1) * (vm * P) ≤ (G + 1) * V := Nat.mul_le_mul_left _ hv
  rw [← Nat.mul_assoc] at h3
  omega
theorem window_top {b : Nat} {D : List Nat} {n : Nat} (d : Dig b D) (h : n + 2 ≤ D.length) : vl b (D.take (n + 2)) < (D.getD (n + 1) 0 * b + D.getD n 0 + 1) * b ^ n := by
  rw [vl_getD, vl_getD, Nat.pow_succ]
  have h1 := vl_lt (dig_take d n)
  rw [List.length_take, Nat.min_eq_left (by omega)] at h1
  have e : (D.getD (n + 1) 0 * b + D.getD n 0 + 1) * b ^ n = b ^ n * b * D.getD (n + 1) 0 + b ^ n * D.getD n 0 + b ^ n := by
    rw [Nat.add_mul, Nat.add_mul, Nat.one_mul, Nat.mul_comm (D.getD n 0), Nat.mul_comm (D.getD (n + 1) 0 * b), Nat.mul_comm (D.getD (n + 1) 0) b, Nat.mul_assoc]
  rw [e]
  omega
theorem divisor_low {b : Nat} {ys : List Nat} {n : Nat} (h : n + 1 = ys.length) : ys.getD n 0 * b ^ n ≤ vl b ys := by
  have := vl_getD (b := b) ys n
  rw [vl_take_all ys _ (by omega)] at this
  rw [this, Nat.mul_comm]
  omega
/-- At the head of a round of the mending: the guess, and whether it is too great. -/
structure DMend (b X V P S G bo : Nat) : Prop where
  bo1 : bo ≤ 1
  val : S + G * V = X + P * bo
  top : X < (G + 1) * V
  lt : S < P
theorem DMend.done {b X V P S G : Nat} (h : DMend b X V P S G 0) : G = X / V ∧ S = X % V := by
  have h1 := h.val
  have h2 := h.top
  rw [Nat.mul_zero, Nat.add_zero] at h1
  rw [Nat.add_mul] at h2
  have hV : S < V := by omega
  rw [← h1, Nat.add_comm, Nat.mul_comm]
  have hp : 0 < V := by omega
  rw [Nat.mul_add_div hp, Nat.mul_add_mod, Nat.div_eq_of_lt hV, Nat.mod_eq_of_lt hV]
  exact ⟨rfl, rfl⟩
theorem DMend.step {b X V P S G S' c : Nat} (h : DMend b X V P S G 1) (hs : S' + P * c = S + V) (hlt : S' < P) (hc : c ≤ 1) : 0 < G ∧ DMend b X V P S' (G - 1) (1 - c) := by
  have h1 := h.val
  have h2 := h.top
  have h3 := h.lt
  have hG : 0 < G := by
    rcases Nat.eq_zero_or_pos G with h0 | h0
    · subst h0; omega
    · exact h0
  obtain ⟨g, rfl⟩ : ∃ g, G = g + 1 := ⟨G - 1, by omega⟩
  rw [Nat.add_mul] at h1 h2
  refine ⟨hG, by omega, ?_, ?_, hlt⟩
  · rw [Nat.add_sub_cancel]
    have : c = 0 ∨ c = 1 := by omega
    rcases this with rfl | rfl <;> omega
  · rw [Nat.add_sub_cancel, Nat.add_mul]; omega
/-- The subtraction is through. -/
theorem DSub.done {b : Nat} {D0 D ys : List Nat} {G n bo ca : Nat} (h : DSub b D0 D ys G (n + 1) bo ca) (hyl : ys.length = n) (hG : G < b) (hl : n + 1 ≤ D.length) (dy : Dig b ys)
    (ht : vl b (D0.take (n + 1)) < (G + 1) * vl b ys) : DMend b (vl b (D0.take (n + 1))) (vl b ys) (b ^ (n + 1)) (vl b (D.take (n + 1))) G bo := by
  have h1 := h.val
  have h2 := h.carry
  rw [vl_take_all ys _ (by omega)] at h1 h2
  have h3 := vl_lt (dig_take h.dig (n + 1))
  rw [List.length_take, Nat.min_eq_left hl] at h3
  have h4 := vl_lt dy
  rw [hyl] at h4
  have hb : 0 < b := by omega
  have hP : 0 < b ^ n := Nat.pow_pos hb
  have h5 : G * vl b ys < b ^ (n + 1) := by
    rw [Nat.pow_succ, Nat.mul_comm (b ^ n)]
    exact Nat.lt_of_le_of_lt (Nat.mul_le_mul_left _ (Nat.le_of_lt h4)) (Nat.mul_lt_mul_of_pos_right hG hP)
  have hc : ca = 0 := by
    rcases Nat.eq_zero_or_pos ca with h0 | h0
    · exact h0
    · have := Nat.mul_le_mul_left (b ^ (n + 1)) h0
      omega
  subst hc
  exact ⟨h.bo1, by simpa using h1, ht, h3⟩
theorem DAdd.done {b : Nat} {D0 D ys : List Nat} {n c : Nat} (h : DAdd b D0 D ys (n + 1) c) (hyl : ys.length = n) (hl : n + 1 ≤ D.length) :
    vl b (D.take (n + 1)) + b ^ (n + 1) * c = vl b (D0.take (n + 1)) + vl b ys ∧ vl b (D.take (n + 1)) < b ^ (n + 1) := by
  have h1 := h.val
  rw [vl_take_all ys _ (by omega)] at h1
  have h3 := vl_lt (dig_take h.dig (n + 1))
  rw [List.length_take, Nat.min_eq_left hl] at h3
  exact ⟨h1, h3⟩
end Go.Cal
namespace Go.Proofs.YtabgfdingdmnlaaGreatDoor
open Go.RowKit Go.Cal
theorem quiet_of2 {P : Program} {f : FuncId} {args : Array Value} {w : World} {k n : Nat} {v : Value}
    (h : Calls P f args (w.drewN (k + n)) fun e w' => e = .returned v ∧ Drawn (w.drewN (k + n)) w') : Calls P f args (w.drewN (k + n)) fun e w'' => e = .returned v ∧ ∃ m, w'' = w.drewN (k + m) :=
  h.mono fun _ _ ⟨he, m, hm⟩ => ⟨he, n + m, by rw [hm, World.drewN_drewN, Nat.add_assoc]⟩
theorem dig_words {x y c : Nat} (hx : x < 18446744073709551616) (hy : y < 18446744073709551616) (hc : c < 18446744073709551616) :
    x * y / 18446744073709551616 + (x * y % 18446744073709551616 + c) / 18446744073709551616 < 18446744073709551616 ∧
    x * y + c = (x * y % 18446744073709551616 + c) % 18446744073709551616 + 18446744073709551616 * (x * y / 18446744073709551616 + (x * y % 18446744073709551616 + c) / 18446744073709551616) := by
  have h : x * y ≤ 18446744073709551615 * 18446744073709551615 := Nat.mul_le_mul (by omega) (by omega)
  omega
theorem sub_words {u l b : Nat} (hu : u < 18446744073709551616) (hl : l < 18446744073709551616) (hb : b ≤ 1) :
    (u + 18446744073709551616 - l - b) % 18446744073709551616 < 18446744073709551616 ∧ (if u < l + b then 1 else 0) ≤ 1 ∧
    (u + 18446744073709551616 - l - b) % 18446744073709551616 + l + b = u + 18446744073709551616 * (if u < l + b then 1 else 0) := by
  split <;> omega
theorem add_words {u y c : Nat} (hu : u < 18446744073709551616) (hy : y < 18446744073709551616) (hc : c ≤ 1) :
    (u + y + c) % 18446744073709551616 < 18446744073709551616 ∧ (u + y + c) / 18446744073709551616 ≤ 1 ∧ u + y + c = (u + y + c) % 18446744073709551616 + 18446744073709551616 * ((u + y + c) / 18446744073709551616) := by
  omega
theorem dmend_pos {b X V P S G : Nat} (h : DMend b X V P S G 1) : 0 < G := by
  rcases Nat.eq_zero_or_pos G with h0 | h0
  · have h1 := h.val
    have h2 := h.lt
    subst h0
    omega
  · exact h0
/-- What digit tells and leaves. -/
def DigitR (w : World) (g k n : Nat) (L : List Nat) (X V : Nat) (e : Ending) (w' : World) : Prop :=
  ∃ L', e = .returned (.int .u64 ((X / V : Nat) : Int)) ∧ BlkU w' g 50 L' ∧ WinEq L L' k n ∧ Dig 18446744073709551616 L' ∧ vl 18446744073709551616 ((L'.drop k).take (n + 1)) = X % V ∧ w.grownBy w' (some g)
end Go.Proofs.YtabgfdingdmnlaaGreatDoor
