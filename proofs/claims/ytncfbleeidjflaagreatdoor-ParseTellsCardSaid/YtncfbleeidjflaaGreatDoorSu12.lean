/- The nat layer, fifth part: products. Conditions: lengths below 2^38. -/
/- math/bits.Div64: two words by one. Condition: the divisor is above the higher word. -/
/- The nat layer: a number by a word. Conditions: lengths below 2^39; the divisor is not 0. -/
/- The nat layer: shifts. Conditions: lengths below 2^38. -/
/- The nat layer: shifts to the right. Conditions: lengths below 2^38. -/
/- The nat layer: copies. Conditions: lengths below 2^38. -/
/- The nat layer: Div. Conditions: lengths below 2^36. -/
/- The nat layer: Word, Bits, Bit, Even. Conditions: lengths below 2^36. -/
import Derived.Test.YtncfbleeidjflaaGreatDoorSu09
import Derived.Test.YtncfbleeidjflaaGreatDoorSu11
import Derived.Test.YtncfbleeidjflaaGreatDoorSu00
import Derived.Deep.CutBlock
import Derived.Deep.DeepCutAuto
import Derived.ArgAppend
namespace Go.Proofs.YtncfbleeidjflaaGreatDoor
open Go.RowKit Go.Cal
theorem mul64_any (x y : Nat) (hx : x < 18446744073709551616) (hy : y < 18446744073709551616) (w : World) :
    Calls Tryz.prog 113 #[.int .u64 x, .int .u64 y] w fun e w' => e = .returned (.tuple #[.int .u64 ((x * y / 18446744073709551616 : Nat) : Int), .int .u64 ((x * y % 18446744073709551616 : Nat) : Int)]) ∧ w = w' :=
  (Tryz.bits_Mul64 x y hx hy w).mono fun _ _ ⟨h, h'⟩ => ⟨h, h'.symm⟩
theorem run_add64_0 (x y : Nat) (w : World) :
    (callFunc 114 #[.int .u64 x, .int .u64 y, .int .u64 0]).run Tryz.prog w =
      .ok (.value (.tuple #[.int .u64 (((x + y) % 18446744073709551616 : Nat) : Int), .int .u64 (((x + y) / 18446744073709551616 : Nat) : Int)])) w := by
  have := run_add64 x y 0 (by omega) w
  rw [Nat.add_zero] at this
  exact this
theorem mul_words {x y c o : Nat} (hx : x < 18446744073709551616) (hy : y < 18446744073709551616) (hc : c < 18446744073709551616) (ho : o < 18446744073709551616) :
    x * y / 18446744073709551616 + (x * y % 18446744073709551616 + c) / 18446744073709551616 < 18446744073709551616 ∧
    x * y / 18446744073709551616 + (x * y % 18446744073709551616 + c) / 18446744073709551616 + (o + (x * y % 18446744073709551616 + c) % 18446744073709551616) / 18446744073709551616 < 18446744073709551616 ∧
    o + x * y + c = (o + (x * y % 18446744073709551616 + c) % 18446744073709551616) % 18446744073709551616 + 18446744073709551616 * (x * y / 18446744073709551616 + (x * y % 18446744073709551616 + c) / 18446744073709551616 + (o + (x * y % 18446744073709551616 + c) % 18446744073709551616) / 18446744073709551616) := by
  have h : x * y ≤ 18446744073709551615 * 18446744073709551615 := Nat.mul_le_mul (by omega) (by omega)
  omega
/-- What stands at the head of an inner round of a product: k words of ys have been taken in, at place i, by the word x. -/
structure MulRel (b : Nat) (xs ys L : List Nat) (i k c : Nat) : Prop where
  len : L.length = xs.length + ys.length
  dig : Dig b L
  carry : c < b
  zero : ∀ j, i + ys.length ≤ j → L.getD j 0 = 0
  sum : vl b L + b ^ (i + k) * c = vl b (xs.take i) * vl b ys + b ^ i * (xs.getD i 0 * vl b (ys.take k))
theorem MulRel.start {b : Nat} (hb : 0 < b) (xs ys : List Nat) : MulRel b xs ys (List.replicate (xs.length + ys.length) 0) 0 0 0 :=
  ⟨by simp, dig_zeros hb _, hb, fun i _ => by simp [List.getD_eq_getElem?_getD, List.getElem?_replicate]; split <;> rfl, by simp [vl, vl_zeros]⟩
theorem MulRel.step {b : Nat} {xs ys L : List Nat} {i k c x y o : Nat} (h : MulRel b xs ys L i k c) (hi : i < xs.length) (hk : k < ys.length) (hx : xs.getD i 0 = x) (hy : ys.getD k 0 = y) (ho : L.getD (i + k) 0 = o) {s c' : Nat} (hs : s < b) (hc' : c' < b)
    (he : o + x * y + c = s + b * c') : MulRel b xs ys (L.set (i + k) s) i (k + 1) c' := by
  refine ⟨by rw [List.length_set, h.len], dig_set h.dig _ hs, hc', fun j hj => by rw [Go.Cal.getD_set_ne (by omega)]; exact h.zero j hj, ?_⟩
  have h1 := vl_set (b := b) L (i + k) s (by rw [h.len]; omega)
  have h2 := h.sum
  rw [hx] at h2
  rw [vl_getD, hx, hy]
  rw [ho] at h1
  have h3 : b ^ (i + k) * (o + x * y + c) = b ^ (i + k) * (s + b * c') := by rw [he]
  have h4 : b ^ i * (x * (vl b (ys.take k) + b ^ k * y)) = b ^ i * (x * vl b (ys.take k)) + b ^ (i + k) * (x * y) := by
    rw [Nat.mul_add x, Nat.mul_add, Nat.pow_add]
    congr 1
    rw [Nat.mul_left_comm x, Nat.mul_assoc]
  rw [h4, show i + (k + 1) = i + k + 1 by omega, Nat.pow_succ, Nat.mul_assoc]
  simp only [Nat.mul_add] at h3
  omega
theorem MulRel.next {b : Nat} (hb : 0 < b) {xs ys L : List Nat} {i c : Nat} (h : MulRel b xs ys L i ys.length c) (hi : i < xs.length) : MulRel b xs ys (L.set (i + ys.length) c) (i + 1) 0 0 := by
  refine ⟨by rw [List.length_set, h.len], dig_set h.dig _ h.carry, hb, fun j hj => by rw [Go.Cal.getD_set_ne (by omega)]; exact h.zero j (by omega), ?_⟩
  have h1 := vl_set (b := b) L (i + ys.length) c (by rw [h.len]; omega)
  rw [h.zero _ (Nat.le_refl _), Nat.mul_zero, Nat.add_zero] at h1
  have h2 := h.sum
  rw [vl_take_all ys _ (Nat.le_refl _)] at h2
  rw [vl_getD, List.take_zero]
  simp only [vl, Nat.mul_zero, Nat.add_zero]
  rw [h1, h2, Nat.add_mul, Nat.mul_assoc]
set_option maxRecDepth 100000 in
set_option maxHeartbeats 1000000 in
theorem mul_any {A1 A2 : Option Addr} {xs ys : List Nat} (c1 c2 : Nat) (w : World) (h1 : RdU w w.heap.size A1 xs) (h2 : RdU w w.heap.size A2 ys) (hn1 : xs.length ≤ 274877906944) (hn2 : ys.length ≤ 274877906944)
    (d1 : Dig 18446744073709551616 xs) (d2 : Dig 18446744073709551616 ys) :
    Calls Tryz.prog 47 #[.slice A1 xs.length c1, .slice A2 ys.length c2] w (RetN w (vl 18446744073709551616 xs * vl 18446744073709551616 ys)) := by
  have hmk := run_makeU (P := Tryz.prog) 33 22 under_nat info_u64 (xs.length + ys.length) (by omega)
  rw [Int.natCast_add] at hmk
  replace d1 := Lib.hid d1
  replace d2 := Lib.hid d2
  go_enter Tryz.func47, Tryz.ntmps47
  go_wp2
  clear hmk
  go_loopw [6, 7, 8, 9, 10, 11, 12, 13, 22, 27, 28, 29] (fun _ _ _ _ _ _ _ _ iv _ _ _ wr => ∃ (i : Nat) (L : List Nat), i ≤ xs.length ∧ iv = .int .i64 i ∧ BlkU wr w.heap.size 22 L ∧ Below w.heap.size w wr ∧ MulRel 18446744073709551616 xs ys L i 0 0) (fun _ _ _ _ _ _ _ _ iv _ _ _ _ => xs.length - (intOf iv).toNat)
  case atStart => exact ⟨0, _, by omega, rfl, BlkU.made w 22 _, (Below.refl _ _).alloc (Nat.le_refl _) _, .start (by omega) xs ys⟩
  case round =>
    obtain ⟨i, L, hi, rfl, hB, hbw, hR⟩ := hrel
    have hz := hbw.size
    by_cases him : i < xs.length
    · have hii : (i : Int) < (xs.length : Int) := by omega
      obtain ⟨b, off, rfl, hb, hcx⟩ := (h1.below hbw).at him
      have hx0 := hcx i him
      clear hcx
      obtain ⟨x, hxx⟩ : ∃ x, xs.getD i 0 = x := ⟨_, rfl⟩
      have hx1 : x < 18446744073709551616 := hxx ▸ dig_getD (by omega) d1.out i
      rw [hxx] at hx0
      replace hxx := Lib.hid hxx
      obtain ⟨wo, rfl⟩ : ∃ wo : World, wo = wr := ⟨_, rfl⟩
      go_wp2
      go_loopw [8, 9, 10, 11, 12, 13, 29] (fun cv _ _ _ _ _ kv wr => ∃ (k c : Nat) (L : List Nat), k ≤ ys.length ∧ kv = .int .i64 k ∧ cv = .int .u64 c ∧ BlkU wr w.heap.size 22 L ∧ Below w.heap.size w wr ∧ MulRel 18446744073709551616 xs ys L i k c) (fun _ _ _ _ _ _ kv _ => ys.length - (intOf kv).toNat)
      case atStart => exact ⟨0, 0, L, by omega, rfl, rfl, hB, hbw, hR⟩
      case round =>
        clear hR hB hbw hx0
        obtain ⟨k, c, L, hk, rfl, rfl, hB, hbw, hR⟩ := hrel
        by_cases hkm : k < ys.length
        · have hkk : (k : Int) < (ys.length : Int) := by omega
          obtain ⟨b2, off2, rfl, hb2, hcy⟩ := (h2.below hbw).at hkm
          have hy0 := hcy k hkm
          clear hcy
          obtain ⟨y, hyy⟩ : ∃ y, ys.getD k 0 = y := ⟨_, rfl⟩
          have hy1 : y < 18446744073709551616 := hyy ▸ dig_getD (by omega) d2.out k
          rw [hyy] at hy0
          obtain ⟨o, hoo⟩ : ∃ o, L.getD (i + k) 0 = o := ⟨_, rfl⟩
          have ho1 : o < 18446744073709551616 := hoo ▸ dig_getD (by omega) hR.dig _
          have hlen : i + k < L.length := by rw [hR.len]; omega
          have hcell := hB.cell (i + k) hlen
          rw [hoo] at hcell
          have hfr := hB.frozen (i + k)
          go_wp2_with fail
          refine (mul64_any x y hx1 hy1 _).mono ?_
          rintro e w1 ⟨rfl, rfl⟩
          have hw := mul_words hx1 hy1 hR.carry ho1
          have ha1 := run_add64_0 (x * y % 18446744073709551616) c
          have ha2 := run_add64_0 o ((x * y % 18446744073709551616 + c) % 18446744073709551616)
          obtain ⟨hw1, hw2, hw3⟩ := hw
          have hst := hR.step him hkm hxx.out hyy hoo (Nat.mod_lt _ (by omega)) hw2 hw3
          have hset := hB.set (i + k) ((o + (x * y % 18446744073709551616 + c) % 18446744073709551616) % 18446744073709551616)
          clear hw3
          replace hyy := Lib.hid hyy
          replace hoo := Lib.hid hoo
          generalize x * y / 18446744073709551616 = p at *
          generalize (x * y % 18446744073709551616 + c) / 18446744073709551616 = c3 at *
          generalize (o + (x * y % 18446744073709551616 + c) % 18446744073709551616) / 18446744073709551616 = c4 at *
          generalize (o + (x * y % 18446744073709551616 + c) % 18446744073709551616) % 18446744073709551616 = s at *
          generalize (x * y % 18446744073709551616 + c) % 18446744073709551616 = l1 at *
          generalize x * y % 18446744073709551616 = l0 at *
          have hw1' : (p : Int) + (c3 : Int) < 18446744073709551616 := by omega
          have hw2' : (p : Int) + (c3 : Int) + (c4 : Int) < 18446744073709551616 := by omega
          have hik : (i : Int) + (k : Int) < (xs.length : Int) + (ys.length : Int) := by omega
          have hik0 : ((i : Int) + (k : Int)).toNat = i + k := by omega
          go_wp2
          exact ⟨⟨k + 1, p + c3 + c4, _, by omega, by go_num, by go_num, hset, hbw.setCell (Nat.le_refl _) _, hst⟩, by simp [intOf]; omega⟩
        · have hk' : k = ys.length := by omega
          subst hk'
          have hlen : i + ys.length < L.length := by rw [hR.len]; omega
          have hcell := hB.cell (i + ys.length) hlen
          have hfr := hB.frozen (i + ys.length)
          have hset := hB.set (i + ys.length) c
          have hst := hR.next (by omega) him
          have hik : (i : Int) + (ys.length : Int) < (xs.length : Int) + (ys.length : Int) := by omega
          have hik0 : ((i : Int) + (ys.length : Int)).toNat = i + ys.length := by omega
          generalize L.getD (i + ys.length) 0 = o at *
          go_wp2
          exact ⟨⟨i + 1, _, by omega, by go_num, hset, hbw.setCell (Nat.le_refl _) _, hst⟩, by simp [intOf]; omega⟩
    · have hi' : i = xs.length := by omega
      subst hi'
      have hv : vl 18446744073709551616 L = vl 18446744073709551616 xs * vl 18446744073709551616 ys := by
        have := hR.sum
        rw [vl_take_all xs _ (Nat.le_refl _), List.take_zero] at this
        simpa [vl] using this
      replace hv := Lib.hid hv
      go_wp2_with fail
      refine (trim_made _ hB (Nat.le_refl _) hbw hR.len (Nat.le_refl _) (by omega) hR.dig hv.out).mono ?_
      rintro e w1 ⟨A, c', zs, rfl, hg, hnrm, hb⟩
      go_wp2
      go_ret
      exact ⟨A, c', zs, rfl, hg, hnrm, hb⟩
end Go.Proofs.YtncfbleeidjflaaGreatDoor
namespace Go.Proofs.YtncfbleeidjflaaGreatDoor
open Go.RowKit Go.Cal
theorem bitLen_spec (n x : Nat) (hn : x ≤ n) (h : x < 2 ^ 64) : x < 2 ^ Lib.bitLen x ∧ (x ≠ 0 → 2 ^ (Lib.bitLen x - 1) ≤ x ∧ 1 ≤ Lib.bitLen x) := by
  induction n generalizing x with
  | zero =>
    obtain rfl : x = 0 := by omega
    exact ⟨by decide, fun h => absurd rfl h⟩
  | succ n ih =>
    by_cases h0 : x = 0
    · subst h0; exact ⟨by decide, fun h => absurd rfl h⟩
    · have e := Lib.bitLen_half x h0 h
      obtain ⟨h1, h2⟩ := ih (x / 2) (by omega) (by omega)
      rw [e]
      refine ⟨by rw [Nat.pow_add]; omega, fun _ => ⟨?_, by omega⟩⟩
      rw [Nat.add_sub_cancel_left]
      by_cases h3 : x / 2 = 0
      · rw [h3]; show 2 ^ Lib.bitLen 0 ≤ x; have : Lib.bitLen 0 = 0 := by decide
        rw [this]; omega
      · obtain ⟨h4, h5⟩ := h2 h3
        have : 2 ^ Lib.bitLen (x / 2) = 2 ^ (Lib.bitLen (x / 2) - 1) * 2 := by rw [← Nat.pow_succ]; congr 1; omega
        omega
theorem bitLen_le (x : Nat) (h : x < 2 ^ 64) : Lib.bitLen x ≤ 64 := by
  by_cases h0 : x = 0
  · subst h0; decide
  · obtain ⟨h1, h2⟩ := (bitLen_spec x x (Nat.le_refl _) h).2 h0
    rcases Nat.lt_or_ge 64 (Lib.bitLen x) with h3 | h3
    · have : 2 ^ 64 ≤ 2 ^ (Lib.bitLen x - 1) := Nat.pow_le_pow_right (by omega) (by omega)
      omega
    · exact h3
end Go.Proofs.YtncfbleeidjflaaGreatDoor
namespace Go.Proofs.YtncfbleeidjflaaGreatDoor
open Go.RowKit Go.Cal
/-- What stands at the head of a round of a division by a word: the words from place m on are divided. -/
structure ShortRel (b : Nat) (xs L : List Nat) (y m left : Nat) : Prop where
  len : L.length = xs.length
  dig : Dig b L
  rest : left < y
  low : ∀ i, i < m → L.getD i 0 = 0
  val : vl b (L.drop m) * y + left = vl b (xs.drop m)
theorem ShortRel.start {b : Nat} (hb : 0 < b) (xs : List Nat) {y : Nat} (hy : 0 < y) : ShortRel b xs (List.replicate xs.length 0) y xs.length 0 :=
  ⟨by simp, dig_zeros hb _, hy, fun i _ => by simp [List.getD_eq_getElem?_getD, List.getElem?_replicate]; split <;> rfl, by rw [List.drop_of_length_le (by simp), List.drop_of_length_le (by simp)]; simp [vl]⟩
theorem ShortRel.step {b : Nat} {xs L : List Nat} {y m left x q r : Nat} (h : ShortRel b xs L y (m + 1) left) (hm : m < xs.length) (hx : xs.getD m 0 = x) (hq : q < b) (hr : r < y) (he : left * b + x = q * y + r) :
    ShortRel b xs (L.set m q) y m r := by
  have hlen := h.len
  refine ⟨by rw [List.length_set, h.len], dig_set h.dig _ hq, hr, fun i hi => by rw [Go.Cal.getD_set_ne (by omega)]; exact h.low i (by omega), ?_⟩
  rw [vl_drop (L.set m q) m (by simp; omega), vl_drop xs m hm, getD_set_eq (by omega), hx, List.drop_set_of_lt (by omega)]
  have := h.val
  have e : b * (vl b (L.drop (m + 1)) * y + left) = b * vl b (xs.drop (m + 1)) := by rw [this]
  rw [Nat.mul_add, ← Nat.mul_assoc] at e
  rw [Nat.add_mul]
  rw [Nat.mul_comm left b] at he
  omega
end Go.Proofs.YtncfbleeidjflaaGreatDoor
namespace Go.Proofs.YtncfbleeidjflaaGreatDoor
open Go.RowKit Go.Cal
/-- What stands at the head of a round of a shift: i words are shifted by q words and r bits. -/
structure ShlRel (b : Nat) (xs L : List Nat) (q p i : Nat) : Prop where
  len : L.length = xs.length + q + 1
  dig : Dig b L
  mid : L.getD (i + q) 0 < p
  zero : ∀ j, i + q < j → L.getD j 0 = 0
  val : vl b L = vl b (xs.take i) * (b ^ q * p)
theorem ShlRel.start {b : Nat} (hb : 0 < b) (xs : List Nat) (q p : Nat) (hp : 0 < p) : ShlRel b xs (List.replicate (xs.length + q + 1) 0) q p 0 := by
  have hz : ∀ j, (List.replicate (xs.length + q + 1) 0).getD j 0 = 0 := fun j => by
    simp [List.getD_eq_getElem?_getD, List.getElem?_replicate]; split <;> rfl
  exact ⟨by simp, dig_zeros hb _, by rw [hz]; exact hp, fun j _ => hz j, by simp [vl, vl_zeros]⟩
theorem ShlRel.step {b : Nat} {xs L : List Nat} {q p i x : Nat} (h : ShlRel b xs L q p i) (hi : i < xs.length) (hx : xs.getD i 0 = x) (hxb : x < b) (hp : 0 < p) (hs : L.getD (i + q) 0 + x * p % b < b) (hpb : p ≤ b) :
    ShlRel b xs ((L.set (i + q) (L.getD (i + q) 0 + x * p % b)).set (i + q + 1) (x * p / b)) q p (i + 1) := by
  have hb : 0 < b := by omega
  have hlt : x * p / b < p := by
    rw [Nat.div_lt_iff_lt_mul hb, Nat.mul_comm p b]
    exact Nat.mul_lt_mul_of_pos_right hxb hp
  have hlen := h.len
  have hz := h.zero (i + q + 1) (by omega)
  refine ⟨by simp [hlen], dig_set (dig_set h.dig _ hs) _ (by omega), ?_, fun j hj => ?_, ?_⟩
  · rw [show i + 1 + q = i + q + 1 by omega, getD_set_eq (by simp; omega)]; exact hlt
  · rw [Go.Cal.getD_set_ne (by omega), Go.Cal.getD_set_ne (by omega)]; exact h.zero j (by omega)
  · have h1 := vl_set (b := b) (L.set (i + q) (L.getD (i + q) 0 + x * p % b)) (i + q + 1) (x * p / b) (by simp; omega)
    have h2 := vl_set (b := b) L (i + q) (L.getD (i + q) 0 + x * p % b) (by omega)
    rw [Go.Cal.getD_set_ne (by omega), hz, Nat.mul_zero, Nat.add_zero] at h1
    rw [h1, vl_getD, hx, Nat.add_mul, ← h.val]
    rw [Nat.mul_add] at h2
    have h3 : b ^ (i + q) * (x * p % b) + b ^ (i + q + 1) * (x * p / b) = b ^ i * x * (b ^ q * p) := by
      rw [Nat.pow_succ, Nat.mul_assoc, ← Nat.mul_add, Nat.mod_add_div, Nat.pow_add]
      simp only [Nat.mul_assoc, Nat.mul_left_comm]
    omega
theorem shl_word {o x r : Nat} (hr : r < 64) (ho : o < 2 ^ r) :
    bits .or .u64 (o : Int) (IntKind.u64.wrap ((x : Int) * 2 ^ r)) = ((o + x * 2 ^ r % 18446744073709551616 : Nat) : Int) ∧ (x : Int) / 2 ^ (64 - r) = ((x * 2 ^ r / 18446744073709551616 : Nat) : Int) ∧ o + x * 2 ^ r % 18446744073709551616 < 18446744073709551616 ∧ 2 ^ r ≤ 18446744073709551616 := by
  have hp := Nat.two_pow_pos r
  have e64 : 2 ^ (64 - r) * 2 ^ r = 18446744073709551616 := by rw [← Nat.pow_add, show 64 - r + r = 64 by omega]
  have hple : 2 ^ r ≤ 18446744073709551616 := by
    have := Nat.two_pow_pos (64 - r)
    have := Nat.mul_le_mul_right (2 ^ r) this
    omega
  have hm : x * 2 ^ r % 18446744073709551616 % 2 ^ r = 0 := by
    rw [← e64, Nat.mul_mod_mul_right, Nat.mul_mod_left]
  have hlt := Nat.mod_lt (x * 2 ^ r) (show 0 < 18446744073709551616 by omega)
  have hob : o + x * 2 ^ r % 18446744073709551616 < 18446744073709551616 := by
    have hd : 2 ^ r ∣ x * 2 ^ r % 18446744073709551616 := Nat.dvd_of_mod_eq_zero hm
    obtain ⟨k, hk⟩ := hd
    have h2 : 2 ^ r * k < 2 ^ r * 2 ^ (64 - r) := by rw [← hk, Nat.mul_comm (2 ^ r) (2 ^ (64 - r)), e64]; exact hlt
    have h3 : k + 1 ≤ 2 ^ (64 - r) := Nat.lt_of_mul_lt_mul_left h2
    have h4 := Nat.mul_le_mul_left (2 ^ r) h3
    rw [Nat.mul_add, ← hk, Nat.mul_comm (2 ^ r) (2 ^ (64 - r)), e64] at h4
    omega
  refine ⟨?_, ?_, hob, hple⟩
  · have e1 : (x : Int) * 2 ^ r = ((x * 2 ^ r : Nat) : Int) := by push_cast; rfl
    rw [e1, wrap_u64, show ((x * 2 ^ r : Nat) : Int) % 18446744073709551616 = ((x * 2 ^ r % 18446744073709551616 : Nat) : Int) by omega, u64_or_nat _ _ (by omega) hlt, Nat.or_comm, nat_join r _ _ hm ho, Nat.add_comm]
  · rw [← e64, Nat.mul_div_mul_right _ _ hp]; push_cast; rfl
theorem pow64 {n q r : Nat} (hq : n / 64 = q) (hr : n % 64 = r) : 18446744073709551616 ^ q * 2 ^ r = 2 ^ n := by
  rw [show 18446744073709551616 = 2 ^ 64 from rfl, ← Nat.pow_mul, ← Nat.pow_add]
  congr 1; omega
set_option maxRecDepth 100000 in
set_option maxHeartbeats 1000000 in
theorem shl_min {A1 : Option Addr} {xs : List Nat} (c1 n : Nat) (ni : Int) (hmin : min (max ni 0) 131072 = (n : Int)) (w : World) (h1 : RdU w w.heap.size A1 xs) (hc1 : xs.length ≤ c1) (hn1 : xs.length ≤ 274877906944) (d1 : Dig 18446744073709551616 xs) :
    Calls Tryz.prog 46 #[.slice A1 xs.length c1, .int .i64 ni] w (RetN w (vl 18446744073709551616 xs * 2 ^ n)) := by
  obtain ⟨q, hq⟩ : ∃ q, n / 64 = q := ⟨_, rfl⟩
  obtain ⟨r, hr⟩ : ∃ r, n % 64 = r := ⟨_, rfl⟩
  have hq' : (n : Int) / 64 = (q : Int) := by omega
  have hr' : (n : Int) % 64 = (r : Int) := by omega
  have hn : n ≤ 131072 := by omega
  have hr64 : r < 64 := by omega
  have hqb : q ≤ 2048 := by omega
  replace hq := Lib.hid hq
  replace hr := Lib.hid hr
  go_enter Tryz.func46, Tryz.ntmps46
  go_wp2_with fail
  refine (trim_nat _ _ h1 hc1 (by omega) d1).mono ?_
  rintro e w1 ⟨⟨zs, rfl, r1, t1, e1, v1, l1⟩, rfl⟩
  have hmk := run_makeU (P := Tryz.prog) 33 22 under_nat info_u64 (zs.length + q + 1) (by omega)
  rw [Int.natCast_add, Int.natCast_add, Int.natCast_one] at hmk
  replace e1 := Lib.hid e1
  replace v1 := Lib.hid v1
  clear h1 d1
  go_wp2
  clear hmk
  go_loopw [6, 7, 8, 23] (fun _ _ _ iv wr => ∃ (i : Nat) (L : List Nat), i ≤ zs.length ∧ iv = .int .i64 i ∧ BlkU wr w.heap.size 22 L ∧ Below w.heap.size w wr ∧ ShlRel 18446744073709551616 zs L q (2 ^ r) i) (fun _ _ _ iv _ => zs.length - (intOf iv).toNat)
  case atStart => exact ⟨0, _, by omega, rfl, BlkU.made w 22 _, (Below.refl _ _).alloc (Nat.le_refl _) _, .start (by omega) zs q _ (Nat.two_pow_pos r)⟩
  case round =>
    obtain ⟨i, L, him, rfl, hB, hbw, hR⟩ := hrel
    have hz := hbw.size
    by_cases hi : i < zs.length
    · have hii : (i : Int) < (zs.length : Int) := by omega
      obtain ⟨b, off, rfl, hb, hcx⟩ := (r1.below hbw).at hi
      have hx0 := hcx i hi
      clear hcx
      obtain ⟨x, hxx⟩ : ∃ x, zs.getD i 0 = x := ⟨_, rfl⟩
      have hx1 : x < 18446744073709551616 := hxx ▸ dig_getD (by omega) e1.out i
      rw [hxx] at hx0
      have hlen := hR.len
      have hcell := hB.cell (i + q) (by omega)
      have hfr := hB.frozen (i + q)
      have hcell2 := hB.cell (i + q + 1) (by omega)
      have hfr2 := hB.frozen (i + q + 1)
      have hik : (i : Int) + (q : Int) < (zs.length : Int) + (q : Int) + 1 := by omega
      have hik2 : (i : Int) + (q : Int) + 1 < (zs.length : Int) + (q : Int) + 1 := by omega
      have hik0 : ((i : Int) + (q : Int)).toNat = i + q := by omega
      have hik1 : ((i : Int) + (q : Int) + 1).toNat = i + q + 1 := by omega
      obtain ⟨hor, hsh, hob, hpb⟩ := shl_word (o := L.getD (i + q) 0) hr64 hR.mid
      have hst := hR.step hi hxx hx1 (Nat.two_pow_pos r) hob hpb
      have hset := ((hB.set (i + q) (L.getD (i + q) 0 + x * 2 ^ r % 18446744073709551616)).set (i + q + 1) (x * 2 ^ r / 18446744073709551616)).drew
      obtain ⟨o, hoo⟩ : ∃ o, L.getD (i + q) 0 = o := ⟨_, rfl⟩
      obtain ⟨o2, hoo2⟩ : ∃ o, L.getD (i + q + 1) 0 = o := ⟨_, rfl⟩
      rw [hoo] at hcell hor hst hset
      rw [hoo2] at hcell2
      obtain ⟨v, hv⟩ : ∃ v, o + x * 2 ^ r % 18446744073709551616 = v := ⟨_, rfl⟩
      obtain ⟨u, hu⟩ : ∃ u, x * 2 ^ r / 18446744073709551616 = u := ⟨_, rfl⟩
      rw [hv] at hor hst hset
      rw [hu] at hsh hst hset
      clear hob hpb
      replace hv := Lib.hid hv
      replace hu := Lib.hid hu
      replace hoo := Lib.hid hoo
      replace hoo2 := Lib.hid hoo2
      replace hxx := Lib.hid hxx
      replace hlen := Lib.hid hlen
      go_wp2
      go_region
      go_wp2
      exact ⟨⟨i + 1, _, by omega, by go_num, hset, ((hbw.setCell (Nat.le_refl _) _).setCell (Nat.le_refl _) _).drew, hst⟩, by simp [intOf]; omega⟩
    · have hi' : i = zs.length := by omega
      subst hi'
      have hv : vl 18446744073709551616 L = vl 18446744073709551616 xs * 2 ^ n := by
        rw [hR.val, vl_take_all zs _ (Nat.le_refl _), v1.out, pow64 hq.out hr.out]
      replace hv := Lib.hid hv
      go_wp2_with fail
      refine (trim_made _ hB (Nat.le_refl _) hbw hR.len (Nat.le_refl _) (by omega) hR.dig hv.out).mono ?_
      rintro e w1 ⟨A, c', zs, rfl, hg, hnrm, hb⟩
      go_wp2
      go_ret
      exact ⟨A, c', zs, rfl, hg, hnrm, hb⟩
/-- Any n. -/
theorem shl_any {A1 : Option Addr} {xs : List Nat} (c1 : Nat) (n : Int) (w : World) (h1 : RdU w w.heap.size A1 xs) (hc1 : xs.length ≤ c1) (hn1 : xs.length ≤ 274877906944) (d1 : Dig 18446744073709551616 xs) :
    Calls Tryz.prog 46 #[.slice A1 xs.length c1, .int .i64 n] w (RetN w (vl 18446744073709551616 xs * 2 ^ (min (max n 0) 131072).toNat)) :=
  shl_min c1 _ n (by omega) w h1 hc1 hn1 d1
end Go.Proofs.YtncfbleeidjflaaGreatDoor
namespace Go.Proofs.YtncfbleeidjflaaGreatDoor
open Go.RowKit Go.Cal
structure ShrRel (b : Nat) (ys L : List Nat) (p i : Nat) : Prop where
  len : L.length = ys.length
  dig : Dig b L
  val : vl b (L.take i) * p + ys.getD 0 0 % p = vl b (ys.take i) + b ^ i * (ys.getD i 0 % p)
theorem ShrRel.start {b : Nat} (hb : 0 < b) (ys : List Nat) (p : Nat) : ShrRel b ys (List.replicate ys.length 0) p 0 :=
  ⟨by simp, dig_zeros hb _, by simp [vl]⟩
theorem ShrRel.step {b : Nat} {ys L : List Nat} {p i o : Nat} (h : ShrRel b ys L p i) (hi : i < ys.length) (ho : o < b) (he : o * p + ys.getD i 0 % p = ys.getD i 0 + b * (ys.getD (i + 1) 0 % p)) : ShrRel b ys (L.set i o) p (i + 1) := by
  refine ⟨by rw [List.length_set, h.len], dig_set h.dig _ ho, ?_⟩
  rw [vl_take_set (by rw [h.len]; exact hi), vl_getD, Nat.add_mul, Nat.pow_succ, Nat.mul_assoc, Nat.mul_assoc]
  have h1 := h.val
  have h2 : b ^ i * (o * p + ys.getD i 0 % p) = b ^ i * (ys.getD i 0 + b * (ys.getD (i + 1) 0 % p)) := by rw [he]
  rw [Nat.mul_add, Nat.mul_add] at h2
  omega
theorem ShrRel.done {b : Nat} {ys L : List Nat} {p : Nat} (h : ShrRel b ys L p ys.length) (hp : 0 < p) : vl b L = vl b ys / p := by
  have h1 := h.val
  rw [vl_take_all L _ (by rw [h.len]; exact Nat.le_refl _), vl_take_all ys _ (Nat.le_refl _)] at h1
  have h2 : ys.getD ys.length 0 = 0 := by simp [List.getD_eq_getElem?_getD]
  rw [h2, Nat.zero_mod, Nat.mul_zero, Nat.add_zero] at h1
  rw [← h1, Nat.mul_comm, Nat.mul_add_div hp, Nat.div_eq_of_lt (Nat.mod_lt _ hp), Nat.add_zero]
end Go.Proofs.YtncfbleeidjflaaGreatDoor
namespace Go.Proofs.YtncfbleeidjflaaGreatDoor
open Go.RowKit Go.Cal
/-- As GotU, but of the room nothing is known but that the words fit. -/
structure GotW (w : World) (base : Nat) (A : Option Addr) (c : Nat) (zs : List Nat) : Prop where
  rd : RdU w w.heap.size A zs
  cap : zs.length ≤ c
  small : c ≤ maxLen
  own : zs = [] ∨ ∃ b off, A = some ⟨b, off, none⟩ ∧ base ≤ b ∧ ∀ i, i < zs.length → w.frozen? ⟨b, off + i, none⟩ = false
theorem gotW_base {w : World} {base base' : Nat} {A : Option Addr} {c : Nat} {zs : List Nat} (h : GotW w base A c zs) (hb : base' ≤ base) : GotW w base' A c zs :=
  ⟨h.rd, h.cap, h.small, h.own.imp id fun ⟨b, off, e, h1, h2⟩ => ⟨b, off, e, by omega, h2⟩⟩
theorem own_base {w : World} {b b' : Nat} {e : TypeId} {n size : Nat} {v : Value} {xs : List Value} (h : w.ownsRow b e size v n xs) (hb : b' ≤ b) : w.ownsRow b' e size v n xs :=
  ⟨h.1, h.2.imp id fun ⟨g, cap, cur, h1, h2, h3⟩ => ⟨g, cap, cur, h1, by omega, h3⟩⟩
theorem lU_len (xs : List Nat) : (lU xs).length = xs.length := by simp [lU]
theorem lU_get (xs : List Nat) (j : Nat) (h : j < xs.length) : (lU xs)[j]? = some (.int .u64 ((xs.getD j 0 : Nat) : Int)) := by
  simp [lU, List.getD_eq_getElem?_getD, h]
theorem gotW_of_own {w : World} {base : Nat} {v : Value} {xs : List Nat} (h : w.ownsRow base 22 1 v xs.length (lU xs)) (h0 : 0 < xs.length) :
    ∃ g c, v = .slice (some ⟨g, 0, none⟩) xs.length c ∧ GotW w base (some ⟨g, 0, none⟩) c xs := by
  obtain ⟨_, ⟨_, h1⟩ | ⟨g, cap, cur, rfl, hg, hw, hn, hm, hs, ht⟩⟩ := h
  · omega
  · have hlt := (Array.getElem?_eq_some_iff.1 hw).1
    refine ⟨g, cap, rfl, ⟨⟨.inr ⟨g, 0, rfl, hlt⟩, fun b off e j hj => ?_⟩, hn, hm, .inr ⟨g, 0, rfl, hg, fun j hj => ?_⟩⟩⟩
    · injection e with e
      injection e with e1 e2
      subst e1; subst e2
      have e3 : cur.toList[j]? = some (.int .u64 ((xs.getD j 0 : Nat) : Int)) := by
        rw [← lU_get xs j hj, ← ht, List.getElem?_take_of_lt (by omega)]
      simp [World.cell?, hw, ← Array.getElem?_toList, e3]
    · simp [World.frozen?, hw]
set_option maxRecDepth 100000 in
set_option maxHeartbeats 1000000 in
theorem clone_some {b off : Nat} {xs : List Nat} (c : Nat) (w : World) (h : RdU w w.heap.size (some ⟨b, off, none⟩) xs) (hn : xs.length ≤ 274877906944) (h0 : 0 < xs.length) :
    Calls Tryz.prog 111 #[.slice (some ⟨b, off, none⟩) xs.length c] w fun e w' => ∃ v, e = .returned v ∧ w'.ownsRow w.heap.size 22 1 v xs.length (lU xs) ∧ Below w.heap.size w w' := by
  obtain ⟨i0, hi, hz0, hz1, hz2⟩ := info_parts info_u64
  have hne : ∀ (a : Addr) (n c : Nat) (w : World), (binOp .eql 33 (.slice (some a) n c) (.slice none 0 0)).run Tryz.prog w = .ok (.bool false) w := fun _ _ _ _ => by kernel_rfl
  go_enter Tryz.func111, Tryz.ntmps111
  go_wp2_with (at_builtin; refine wpList_append_grows _ rfl _ _ 33 rfl 22 i0 (.int .u64 0) 1 8 under_nat hi hz0 hz1 hz2 rfl (by decide) _ 0 0 [] rfl (fun h => by cases h) rfl ?hold ⟨b, off, none⟩ xs.length c (lU xs) rfl ?c1 ?c2 ?c3 ?c4 ?c5 ?c6 ?_)
  case hold => intro _ _ j u hj; simp at hj
  case c1 => rw [lU_len, Nat.mul_one]
  case c2 =>
    intro j u hj
    rw [Addr.add_lit]
    rcases Nat.lt_or_ge j xs.length with hlt | hge
    · rw [lU_get xs j hlt] at hj
      injection hj with hj
      subst hj
      obtain ⟨b', o', e, hb', hc⟩ := h.at hlt
      injection e with e
      injection e with e1 e2
      subst e1; subst e2
      rw [World.cell?_alloc_past _ _ _ hb']
      exact hc j hlt
    · rw [List.getElem?_eq_none (by rw [lU_len]; exact hge)] at hj
      cases hj
  case c3 =>
    intro u hu
    simp only [lU, List.mem_map] at hu
    obtain ⟨x, _, rfl⟩ := hu
    rfl
  case c4 => omega
  case c5 => unfold maxLen; omega
  case c6 => omega
  intro v' w1 hown hgr
  clear hne
  go_wp2
  go_ret
  exact ⟨v', rfl, own_base hown (by omega), ((Below.refl _ _).alloc (Nat.le_refl _) _).grown hgr (by simp) (fun j hj => by cases hj)⟩
set_option maxRecDepth 100000 in
set_option maxHeartbeats 1000000 in
theorem clone_none (w : World) : Calls Tryz.prog 111 #[.slice none 0 0] w fun e w' => e = .returned (.slice none 0 0) ∧ w = w' := by
  have hne : ∀ (w : World), (binOp .eql 33 (.slice none 0 0) (.slice none 0 0)).run Tryz.prog w = .ok (.bool true) w := fun _ => by kernel_rfl
  go_enter Tryz.func111, Tryz.ntmps111
  go_wp2
  go_ret
  exact ⟨rfl, rfl⟩
set_option maxRecDepth 100000 in
set_option maxHeartbeats 1000000 in
theorem clone_empty (a : Addr) (c : Nat) (w : World) : Calls Tryz.prog 111 #[.slice (some a) 0 c] w fun e w' => ∃ g, e = .returned (.slice (some ⟨g, 0, none⟩) 0 0) ∧ Below w.heap.size w w' := by
  obtain ⟨i0, hi, hz0, hz1, hz2⟩ := info_parts info_u64
  have hne : ∀ (a : Addr) (n c : Nat) (w : World), (binOp .eql 33 (.slice (some a) n c) (.slice none 0 0)).run Tryz.prog w = .ok (.bool false) w := fun _ _ _ _ => by kernel_rfl
  go_enter Tryz.func111, Tryz.ntmps111
  go_wp2_with (at_builtin; refine wpList_append_arg _ rfl _ _ 33 rfl 22 i0 (.int .u64 0) 1 8 under_nat hi hz0 hz1 hz2 rfl (by decide) w.heap.size 0 0 0 [] rfl rfl (fun j u hj => by simp at hj) a 0 c [] rfl rfl (fun j u hj => by simp at hj) (fun u hu => by simp at hu) (fun _ j hj => by simp at hj) (by unfold maxLen; omega) (by omega) (fun _ => ?_) (fun h => by omega))
  clear hne
  go_wp2
  go_ret
  exact ⟨_, rfl, (Below.refl _ _).alloc (Nat.le_refl _) _⟩
theorem clone_any {A : Option Addr} {xs : List Nat} (c : Nat) (w : World) (h : RdU w w.heap.size A xs) (hn : xs.length ≤ 274877906944) (hA : A = none → c = 0) :
    Calls Tryz.prog 111 #[.slice A xs.length c] w fun e w' => ∃ A' c', e = .returned (.slice A' xs.length c') ∧ GotW w' w.heap.size A' c' xs ∧ Below w.heap.size w w' := by
  rcases Nat.eq_zero_or_pos xs.length with h0 | h0
  · obtain rfl := List.eq_nil_of_length_eq_zero h0
    cases A with
    | none =>
      rw [hA rfl]
      exact (clone_none w).mono fun e w' ⟨he, hw⟩ => ⟨none, 0, he, ⟨.nil, Nat.le_refl _, by omega, .inl rfl⟩, hw ▸ Below.refl _ _⟩
    | some a => exact (clone_empty a c w).mono fun e w' ⟨g, he, hw⟩ => ⟨_, 0, he, ⟨.nil, Nat.le_refl _, by omega, .inl rfl⟩, hw⟩
  · obtain ⟨b, off, rfl, _⟩ := h.at h0
    refine (clone_some c w h hn h0).mono fun e w' ⟨v, he, ho, hb⟩ => ?_
    obtain ⟨g, c', rfl, hg⟩ := gotW_of_own ho h0
    exact ⟨_, c', he, hg, hb⟩
/-- The call returns a slice of its own that reads as the number N; of its room nothing is known. -/
def RetW (w : World) (N : Nat) (e : Ending) (w' : World) : Prop :=
  ∃ A c zs, e = .returned (.slice A (zs : List Nat).length c) ∧ GotW w' w.heap.size A c zs ∧ Nrm zs N ∧ Below w.heap.size w w'
set_option maxHeartbeats 1000000 in
theorem norm_any {A : Option Addr} {xs : List Nat} (c : Nat) (w : World) (h : RdU w w.heap.size A xs) (hc : xs.length ≤ c) (hn : xs.length ≤ 274877906944) (d : Dig 18446744073709551616 xs) :
    Calls Tryz.prog 43 #[.slice A xs.length c] w (RetW w (vl 18446744073709551616 xs)) := by
  go_enter Tryz.func43, Tryz.ntmps43
  go_wp2_with fail
  refine (trim_nat _ _ h hc (by omega) d).mono ?_
  rintro e w1 ⟨⟨zs1, rfl, r1, t1, e1, v1, l1⟩, rfl⟩
  go_wp2_with fail
  refine (clone_any zs1.length w r1 (by omega) (fun e => ?_)).mono ?_
  · subst e
    rcases r1.place with h0 | ⟨_, _, h0, _⟩
    · rw [h0]; rfl
    · cases h0
  rintro e w1 ⟨A', c', rfl, hg, hb⟩
  go_wp2
  go_ret
  exact ⟨A', c', zs1, rfl, hg, ⟨e1, t1, v1⟩, hb⟩
set_option maxHeartbeats 1000000 in
theorem of_any (n : Nat) (hn : n < 18446744073709551616) (w : World) : Calls Tryz.prog 96 #[.int .u64 n] w (RetW w n) := by
  have hB := BlkU.lit w 22 [n] #[.int .u64 n] rfl
  have hrd := (hB.rd 0 1 (by simp)).more (B' := (w.alloc (.cells #[.int .u64 (n : Int)] 22)).heap.size) (by simp)
  have hd : Dig 18446744073709551616 [n] := fun x hx => by simp at hx; omega
  have hnorm := norm_any 1 _ hrd (by simp) (by simp) hd
  have hv : vl 18446744073709551616 [n] = n := by simp [vl]
  simp only [List.drop_zero, List.take_succ_cons, List.take_zero] at hnorm
  rw [hv] at hnorm
  replace hnorm := Lib.hid hnorm
  clear hrd hB hd hv
  go_enter Tryz.func96, Tryz.ntmps96
  go_wp2_with fail
  refine hnorm.out.mono ?_
  rintro e w1 ⟨A', c', zs, rfl, hg, hz, hb⟩
  go_wp2
  go_ret
  exact ⟨A', c', zs, rfl, gotW_base hg (by simp), hz, chain ((Below.refl _ _).alloc (Nat.le_refl _) _) hb⟩
end Go.Proofs.YtncfbleeidjflaaGreatDoor
namespace Go.Proofs.YtncfbleeidjflaaGreatDoor
open Go.RowKit Go.Cal
/-- What Div tells. -/
def RetDiv (w : World) (X Y : Nat) (e : Ending) (w' : World) : Prop :=
  if Y = 0 then e = .returned (.tuple #[.slice none 0 0, .slice none 0 0, .bool false]) ∧ Below w.heap.size w w'
  else ∃ A c zs A' c' rs, e = .returned (.tuple #[.slice A (zs : List Nat).length c, .slice A' (rs : List Nat).length c', .bool true]) ∧ GotW w' w.heap.size A c zs ∧ Nrm zs (X / Y) ∧ GotW w' w.heap.size A' c' rs ∧ Nrm rs (X % Y) ∧ Below w.heap.size w w'
theorem RetDiv.none {w w' : World} {X Y : Nat} (h : Y = 0) (hb : Below w.heap.size w w') : RetDiv w X Y (.returned (.tuple #[.slice none 0 0, .slice none 0 0, .bool false])) w' := by
  unfold RetDiv
  rw [if_pos h]
  exact ⟨rfl, hb⟩
theorem RetDiv.some {w w' : World} {X Y : Nat} {A A' : Option Addr} {c c' : Nat} {zs rs : List Nat} (h : 0 < Y) (g : GotW w' w.heap.size A c zs) (n : Nrm zs (X / Y)) (g' : GotW w' w.heap.size A' c' rs) (n' : Nrm rs (X % Y)) (hb : Below w.heap.size w w') :
    RetDiv w X Y (.returned (.tuple #[.slice A zs.length c, .slice A' rs.length c', .bool true])) w' := by
  unfold RetDiv
  rw [if_neg (by omega)]
  exact ⟨A, c, zs, A', c', rs, rfl, g, n, g', n', hb⟩
theorem gotU_toW {w : World} {base : Nat} {A : Option Addr} {c : Nat} {zs : List Nat} (h : GotU w base A c zs) : GotW w base A c zs :=
  ⟨h.rd, h.cap, by have := h.small; unfold maxLen; omega, h.own⟩
theorem GotW.below {w w' : World} {base : Nat} {A : Option Addr} {c : Nat} {zs : List Nat} (h : GotW w base A c zs) (hb : Below w.heap.size w w') : GotW w' base A c zs := by
  refine ⟨(h.rd.below hb).more hb.size, h.cap, h.small, h.own.imp id ?_⟩
  rintro ⟨b, off, rfl, h1, h2⟩
  refine ⟨b, off, rfl, h1, fun i hi => ?_⟩
  obtain ⟨b', off', e, hlt, _⟩ := h.rd.at hi
  injection e with e
  injection e with e1 e2
  subst e1; subst e2
  rw [hb.frozen (p := ⟨b, off + i, none⟩) hlt]
  exact h2 i hi
theorem GotW.nil (w : World) (base : Nat) : GotW w base none 0 [] := ⟨.nil, Nat.le_refl _, by unfold maxLen; omega, .inl rfl⟩
end Go.Proofs.YtncfbleeidjflaaGreatDoor
namespace Go.Proofs.YtncfbleeidjflaaGreatDoor
open Go.RowKit Go.Cal
/-- How many bits. -/
def blen (N : Nat) : Nat := if N = 0 then 0 else Nat.log2 N + 1
theorem blen_of {N k : Nat} (h1 : 2 ^ k ≤ N) (h2 : N < 2 ^ (k + 1)) : blen N = k + 1 := by
  have hp := Nat.two_pow_pos k
  have h0 : N ≠ 0 := by omega
  unfold blen
  rw [if_neg h0]
  have h3 := (Nat.le_log2 h0).2 h1
  have h4 := (Nat.log2_lt h0).2 h2
  omega
theorem vl_blen {xs : List Nat} (d : Dig 18446744073709551616 xs) (t : Top xs) (h : 0 < xs.length) :
    blen (vl 18446744073709551616 xs) = 64 * (xs.length - 1) + Lib.bitLen (xs.getD (xs.length - 1) 0) := by
  obtain ⟨m, hm⟩ : ∃ m, xs.length = m + 1 := ⟨xs.length - 1, by omega⟩
  have h0 : xs.getD m 0 ≠ 0 := by
    have h1 := t (by intro e; subst e; simp at hm)
    rw [List.getLast_eq_getElem] at h1
    rw [List.getD_eq_getElem?_getD, List.getElem?_eq_getElem (by omega)]
    simpa [hm] using h1
  have hb := dig_getD (b := 18446744073709551616) (by omega) d m
  rw [hm, Nat.add_sub_cancel]
  generalize hx : xs.getD m 0 = x at h0 hb ⊢
  obtain ⟨s1, s2⟩ := bitLen_spec x x (Nat.le_refl _) hb
  obtain ⟨s2, s3⟩ := s2 h0
  obtain ⟨l, hl⟩ : ∃ l, Lib.bitLen x = l + 1 := ⟨Lib.bitLen x - 1, by omega⟩
  rw [hl] at s1 s2 ⊢
  have hv : vl 18446744073709551616 xs = vl 18446744073709551616 (xs.take m) + 18446744073709551616 ^ m * x := by
    rw [← hx, ← vl_getD, vl_take_all _ _ (by omega)]
  have hlo := vl_lt (dig_take d m)
  rw [List.length_take, Nat.min_eq_left (by omega)] at hlo
  have hp : 18446744073709551616 ^ m = 2 ^ (64 * m) := by rw [show 18446744073709551616 = 2 ^ 64 from rfl, ← Nat.pow_mul]
  rw [hp] at hv hlo
  refine blen_of (k := 64 * m + l) ?_ ?_
  · rw [Nat.pow_add, hv]
    have := Nat.mul_le_mul_left (2 ^ (64 * m)) s2
    rw [Nat.add_sub_cancel] at this
    omega
  · rw [Nat.add_assoc, Nat.pow_add, hv]
    have := Nat.mul_le_mul_left (2 ^ (64 * m)) (show x + 1 ≤ 2 ^ (l + 1) from s1)
    rw [Nat.mul_add] at this
    omega
set_option maxHeartbeats 1000000 in
theorem bits_any {B : Nat} {A : Option Addr} {xs : List Nat} (c : Nat) (w : World) (h : RdU w B A xs) (hc : xs.length ≤ c) (hn : xs.length ≤ 68719476736) (d : Dig 18446744073709551616 xs) :
    Calls Tryz.prog 45 #[.slice A xs.length c] w fun e w' => e = .returned (.int .i64 (blen (vl 18446744073709551616 xs) : Nat)) ∧ w = w' := by
  go_enter Tryz.func45, Tryz.ntmps45
  go_wp2_with fail
  refine (trim_nat _ _ h hc (by omega) d).mono ?_
  rintro e w1 ⟨⟨zs1, rfl, r1, t1, e1, v1, l1⟩, rfl⟩
  by_cases h0 : zs1.length = 0
  · obtain rfl := List.eq_nil_of_length_eq_zero h0
    have hY := Lib.hid (show blen (vl 18446744073709551616 xs) = 0 by rw [← v1]; rfl)
    clear v1 r1 h d
    go_wp2
    go_ret
    exact ⟨by rw [hY.out]; rfl, rfl⟩
  · have h0' : ((zs1.length : Int) == 0) = false := by simpa using h0
    have hb := vl_blen e1 t1 (Nat.pos_of_ne_zero h0)
    obtain ⟨m, hm⟩ : ∃ m, zs1.length = m + 1 := ⟨zs1.length - 1, by omega⟩
    rw [show zs1.length - 1 = m by omega, v1] at hb
    have hx := dig_getD (b := 18446744073709551616) (by omega) e1 m
    obtain ⟨b, off, rfl, hbb, hcy⟩ := r1.at (i := m) (by omega)
    have hc0 := hcy m (by omega)
    clear hcy
    generalize zs1.getD m 0 = x at *
    have hbl := bitLen_le x hx
    have hml : (m : Int) < (zs1.length : Int) := by omega
    have hmi : (zs1.length : Int) - 1 = (m : Int) := by omega
    replace hm := Lib.hid hm
    replace hb := Lib.hid hb
    replace v1 := Lib.hid v1
    go_wp2_with fail
    refine (Tryz.bits_Len64 x w (by omega) (by omega)).mono ?_
    rintro e w' ⟨rfl, rfl⟩
    simp only [Int.toNat_natCast]
    generalize Lib.bitLen x = l at *
    go_wp2
    go_ret
    exact ⟨by rw [hb.out]; exact ret_int (by push_cast; rfl), rfl⟩
end Go.Proofs.YtncfbleeidjflaaGreatDoor
