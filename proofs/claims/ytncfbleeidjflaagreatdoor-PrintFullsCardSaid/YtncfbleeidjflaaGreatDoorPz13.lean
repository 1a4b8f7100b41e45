/- The nat layer, fifth part: products. Conditions: lengths below 2^38. -/
/- math/bits.Div64: two words by one. Condition: the divisor is above the higher word. -/
/- The nat layer: a number by a word. Conditions: lengths below 2^39; the divisor is not 0. -/
import Derived.Test.YtncfbleeidjflaaGreatDoorPz10
import Derived.Test.YtncfbleeidjflaaGreatDoorPz12
import Derived.Test.YtncfbleeidjflaaGreatDoorPz00
import Derived.Deep.CutBlock
import Derived.Deep.DeepCutAuto
namespace Go.Proofs.YtncfbleeidjflaaGreatDoor
open Go.RowKit Go.Cal
theorem mul64_any (x y : Nat) (hx : x < 18446744073709551616) (hy : y < 18446744073709551616) (w : World) :
    Calls Tryz.prog 113 #[.int .u64 x, .int .u64 y] w fun e w' => e = .returned (.tuple #[.int .u64 ((x * y / 18446744073709551616 : Nat) : Int), .int .u64 ((x * y % 18446744073709551616 : Nat) : Int)]) ∧ w = w' :=
  (Tryz.bits_Mul64 x y hx hy w).mono fun _ _ ⟨h, h'⟩ => ⟨h, h'.symm⟩
theorem run_add64_0 (x y : Nat) (w : World) :
    (callFunc 114 #[.int .u64 x, .int .u64 y, .int .u64 0]).run Tryz.prog w =
      .ok (.value (.tuple #[.int .u64 (((x + y) % 18446744073709551616 : Nat) : Int), .int .u64 (((x + y) / 18446744073709551616 : Nat) : Int)])) w := by
  have := run_add64 x y 0 (by omega) w
  rw [Nat.add_zero] at this
  exact this
theorem mul_words {x y c o : Nat} (hx : x < 18446744073709551616) (hy : y < 18446744073709551616) (hc : c < 18446744073709551616) (ho : o < 18446744073709551616) :
    x * y / 18446744073709551616 + (x * y % 18446744073709551616 + c) / 18446744073709551616 < 18446744073709551616 ∧
    x * y / 18446744073709551616 + (x * y % 18446744073709551616 + c) / 18446744073709551616 + (o + (x * y % 18446744073709551616 + c) % 18446744073709551616) / 18446744073709551616 < 18446744073709551616 ∧
    o + x * y + c = (o + (x * y % 18446744073709551616 + c) % 18446744073709551616) % 18446744073709551616 + 18446744073709551616 * (x * y / 18446744073709551616 + (x * y % 18446744073709551616 + c) / 18446744073709551616 + (o + (x * y % 18446744073709551616 + c) % 18446744073709551616) / 18446744073709551616) := by
  have h : x * y ≤ 18446744073709551615 * 18446744073709551615 := Nat.mul_le_mul (by omega) (by omega)
  omega
/-- What stands at the head of an inner round of a product: k words of ys have been taken in, at place i, by the word x. -/
structure MulRel (b : Nat) (xs ys L : List Nat) (i k c : Nat) : Prop where
  len : L.length = xs.length + ys.length
  dig : Dig b L
  carry : c < b
  zero : ∀ j, i + ys.length ≤ j → L.getD j 0 = 0
  sum : vl b L + b ^ (i + k) * c = vl b (xs.take i) * vl b ys + b ^ i * (xs.getD i 0 * vl b (ys.take k))
theorem MulRel.start {b : Nat} (hb : 0 < b) (xs ys : List Nat) : MulRel b xs ys (List.replicate (xs.length + ys.length) 0) 0 0 0 :=
  ⟨by simp, dig_zeros hb _, hb, fun i _ => by simp [List.getD_eq_getElem?_getD, List.getElem?_replicate]; split <;> rfl, by simp [vl, vl_zeros]⟩
theorem MulRel.step {b : Nat} {xs ys L : List Nat} {i k c x y o : Nat} (h : MulRel b xs ys L i k c) (hi : i < xs.length) (hk : k < ys.length) (hx : xs.getD i 0 = x) (hy : ys.getD k 0 = y) (ho : L.getD (i + k) 0 = o) {s c' : Nat} (hs : s < b) (hc' : c' < b)
    (he : o + x * y + c = s + b * c') : MulRel b xs ys (L.set (i + k) s) i (k + 1) c' := by
  refine ⟨by rw [List.length_set, h.len], dig_set h.dig _ hs, hc', fun j hj => by rw [Go.Cal.getD_set_ne (by omega)]; exact h.zero j hj, ?_⟩
  have h1 := vl_set (b := b) L (i + k) s (by rw [h.len]; omega)
  have h2 := h.sum
  rw [hx] at h2
  rw [vl_getD, hx, hy]
  rw [ho] at h1
  have h3 : b ^ (i + k) * (o + x * y + c) = b ^ (i + k) * (s + b * c') := by rw [he]
  have h4 : b ^ i * (x * (vl b (ys.take k) + b ^ k * y)) = b ^ i * (x * vl b (ys.take k)) + b ^ (i + k) * (x * y) := by
    rw [Nat.mul_add x, Nat.mul_add, Nat.pow_add]
    congr 1
    rw [Nat.mul_left_comm x, Nat.mul_assoc]
  rw [h4, show i + (k + 1) = i + k + 1 by omega, Nat.pow_succ, Nat.mul_assoc]
  simp only [Nat.mul_add] at h3
  omega
theorem MulRel.next {b : Nat} (hb : 0 < b) {xs ys L : List Nat} {i c : Nat} (h : MulRel b xs ys L i ys.length c) (hi : i < xs.length) : MulRel b xs ys (L.set (i + ys.length) c) (i + 1) 0 0 := by
  refine ⟨by rw [List.length_set, h.len], dig_set h.dig _ h.carry, hb, fun j hj => by rw [Go.Cal.getD_set_ne (by omega)]; exact h.zero j (by omega), ?_⟩
  have h1 := vl_set (b := b) L (i + ys.length) c (by rw [h.len]; omega)
  rw [h.zero _ (Nat.le_refl _), Nat.mul_zero, Nat.add_zero] at h1
  have h2 := h.sum
  rw [vl_take_all ys _ (Nat.le_refl _)] at h2
  rw [vl_getD, List.take_zero]
  simp only [vl, Nat.mul_zero, Nat.add_zero]
  rw [h1, h2, Nat.add_mul, Nat.mul_assoc]
set_option maxRecDepth 100000 in
set_option maxHeartbeats 1000000 in
theorem mul_any {A1 A2 : Option Addr} {xs ys : List Nat} (c1 c2 : Nat) (w : World) (h1 : RdU w w.heap.size A1 xs) (h2 : RdU w w.heap.size A2 ys) (hn1 : xs.length ≤ 274877906944) (hn2 : ys.length ≤ 274877906944)
    (d1 : Dig 18446744073709551616 xs) (d2 : Dig 18446744073709551616 ys) :
    Calls Tryz.prog 47 #[.slice A1 xs.length c1, .slice A2 ys.length c2] w (RetN w (vl 18446744073709551616 xs * vl 18446744073709551616 ys)) := by
  have hmk := run_makeU (P := Tryz.prog) 33 22 under_nat info_u64 (xs.length + ys.length) (by omega)
  rw [Int.natCast_add] at hmk
  replace d1 := Lib.hid d1
  replace d2 := Lib.hid d2
  go_enter Tryz.func47, Tryz.ntmps47
  go_wp2
  clear hmk
  go_loopw [6, 7, 8, 9, 10, 11, 12, 13, 22, 27, 28, 29] (fun _ _ _ _ _ _ _ _ iv _ _ _ wr => ∃ (i : Nat) (L : List Nat), i ≤ xs.length ∧ iv = .int .i64 i ∧ BlkU wr w.heap.size 22 L ∧ Below w.heap.size w wr ∧ MulRel 18446744073709551616 xs ys L i 0 0) (fun _ _ _ _ _ _ _ _ iv _ _ _ _ => xs.length - (intOf iv).toNat)
  case atStart => exact ⟨0, _, by omega, rfl, BlkU.made w 22 _, (Below.refl _ _).alloc (Nat.le_refl _) _, .start (by omega) xs ys⟩
  case round =>
    obtain ⟨i, L, hi, rfl, hB, hbw, hR⟩ := hrel
    have hz := hbw.size
    by_cases him : i < xs.length
    · have hii : (i : Int) < (xs.length : Int) := by omega
      obtain ⟨b, off, rfl, hb, hcx⟩ := (h1.below hbw).at him
      have hx0 := hcx i him
      clear hcx
      obtain ⟨x, hxx⟩ : ∃ x, xs.getD i 0 = x := ⟨_, rfl⟩
      have hx1 : x < 18446744073709551616 := hxx ▸ dig_getD (by omega) d1.out i
      rw [hxx] at hx0
      replace hxx := Lib.hid hxx
      obtain ⟨wo, rfl⟩ : ∃ wo : World, wo = wr := ⟨_, rfl⟩
      go_wp2
      go_loopw [8, 9, 10, 11, 12, 13, 29] (fun cv _ _ _ _ _ kv wr => ∃ (k c : Nat) (L : List Nat), k ≤ ys.length ∧ kv = .int .i64 k ∧ cv = .int .u64 c ∧ BlkU wr w.heap.size 22 L ∧ Below w.heap.size w wr ∧ MulRel 18446744073709551616 xs ys L i k c) (fun _ _ _ _ _ _ kv _ => ys.length - (intOf kv).toNat)
      case atStart => exact ⟨0, 0, L, by omega, rfl, rfl, hB, hbw, hR⟩
      case round =>
        clear hR hB hbw hx0
        obtain ⟨k, c, L, hk, rfl, rfl, hB, hbw, hR⟩ := hrel
        by_cases hkm : k < ys.length
        · have hkk : (k : Int) < (ys.length : Int) := by omega
          obtain ⟨b2, off2, rfl, hb2, hcy⟩ := (h2.below hbw).at hkm
          have hy0 := hcy k hkm
          clear hcy
          obtain ⟨y, hyy⟩ : ∃ y, ys.getD k 0 = y := ⟨_, rfl⟩
          have hy1 : y < 18446744073709551616 := hyy ▸ dig_getD (by omega) d2.out k
          rw [hyy] at hy0
          obtain ⟨o, hoo⟩ : ∃ o, L.getD (i + k) 0 = o := ⟨_, rfl⟩
          have ho1 : o < 18446744073709551616 := hoo ▸ dig_getD (by omega) hR.dig _
          have hlen : i + k < L.length := by rw [hR.len]; omega
          have hcell := hB.cell (i + k) hlen
          rw [hoo] at hcell
          have hfr := hB.frozen (i + k)
          go_wp2_with fail
          refine (mul64_any x y hx1 hy1 _).mono ?_
          rintro e w1 ⟨rfl, rfl⟩
          have hw := mul_words hx1 hy1 hR.carry ho1
          have ha1 := run_add64_0 (x * y % 18446744073709551616) c
          have ha2 := run_add64_0 o ((x * y % 18446744073709551616 + c) % 18446744073709551616)
          obtain ⟨hw1, hw2, hw3⟩ := hw
          have hst := hR.step him hkm hxx.out hyy hoo (Nat.mod_lt _ (by omega)) hw2 hw3
          have hset := hB.set (i + k) ((o + (x * y % 18446744073709551616 + c) % 18446744073709551616) % 18446744073709551616)
          clear hw3
          replace hyy := Lib.hid hyy
          replace hoo := Lib.hid hoo
          generalize x * y / 18446744073709551616 = p at *
          generalize (x * y % 18446744073709551616 + c) / 18446744073709551616 = c3 at *
          generalize (o + (x * y % 18446744073709551616 + c) % 18446744073709551616) / 18446744073709551616 = c4 at *
          generalize (o + (x * y % 18446744073709551616 + c) % 18446744073709551616) % 18446744073709551616 = s at *
          generalize (x * y % 18446744073709551616 + c) % 18446744073709551616 = l1 at *
          generalize x * y % 18446744073709551616 = l0 at *
          have hw1' : (p : Int) + (c3 : Int) < 18446744073709551616 := by omega
          have hw2' : (p : Int) + (c3 : Int) + (c4 : Int) < 18446744073709551616 := by omega
          have hik : (i : Int) + (k : Int) < (xs.length : Int) + (ys.length : Int) := by omega
          have hik0 : ((i : Int) + (k : Int)).toNat = i + k := by omega
          go_wp2
          exact ⟨⟨k + 1, p + c3 + c4, _, by omega, by go_num, by go_num, hset, hbw.setCell (Nat.le_refl _) _, hst⟩, by simp [intOf]; omega⟩
        · have hk' : k = ys.length := by omega
          subst hk'
          have hlen : i + ys.length < L.length := by rw [hR.len]; omega
          have hcell := hB.cell (i + ys.length) hlen
          have hfr := hB.frozen (i + ys.length)
          have hset := hB.set (i + ys.length) c
          have hst := hR.next (by omega) him
          have hik : (i : Int) + (ys.length : Int) < (xs.length : Int) + (ys.length : Int) := by omega
          have hik0 : ((i : Int) + (ys.length : Int)).toNat = i + ys.length := by omega
          generalize L.getD (i + ys.length) 0 = o at *
          go_wp2
          exact ⟨⟨i + 1, _, by omega, by go_num, hset, hbw.setCell (Nat.le_refl _) _, hst⟩, by simp [intOf]; omega⟩
    · have hi' : i = xs.length := by omega
      subst hi'
      have hv : vl 18446744073709551616 L = vl 18446744073709551616 xs * vl 18446744073709551616 ys := by
        have := hR.sum
        rw [vl_take_all xs _ (Nat.le_refl _), List.take_zero] at this
        simpa [vl] using this
      replace hv := Lib.hid hv
      go_wp2_with fail
      refine (trim_made _ hB (Nat.le_refl _) hbw hR.len (Nat.le_refl _) (by omega) hR.dig hv.out).mono ?_
      rintro e w1 ⟨A, c', zs, rfl, hg, hnrm, hb⟩
      go_wp2
      go_ret
      exact ⟨A, c', zs, rfl, hg, hnrm, hb⟩
end Go.Proofs.YtncfbleeidjflaaGreatDoor
namespace Go.Proofs.YtncfbleeidjflaaGreatDoor
open Go.RowKit Go.Cal
theorem bitLen_spec (n x : Nat) (hn : x ≤ n) (h : x < 2 ^ 64) : x < 2 ^ Lib.bitLen x ∧ (x ≠ 0 → 2 ^ (Lib.bitLen x - 1) ≤ x ∧ 1 ≤ Lib.bitLen x) := by
  induction n generalizing x with
  | zero =>
    obtain rfl : x = 0 := by omega
    exact ⟨by decide, fun h => absurd rfl h⟩
  | succ n ih =>
    by_cases h0 : x = 0
    · subst h0; exact ⟨by decide, fun h => absurd rfl h⟩
    · have e := Lib.bitLen_half x h0 h
      obtain ⟨h1, h2⟩ := ih (x / 2) (by omega) (by omega)
      rw [e]
      refine ⟨by rw [Nat.pow_add]; omega, fun _ => ⟨?_, by omega⟩⟩
      rw [Nat.add_sub_cancel_left]
      by_cases h3 : x / 2 = 0
      · rw [h3]; show 2 ^ Lib.bitLen 0 ≤ x; have : Lib.bitLen 0 = 0 := by decide
        rw [this]; omega
      · obtain ⟨h4, h5⟩ := h2 h3
        have : 2 ^ Lib.bitLen (x / 2) = 2 ^ (Lib.bitLen (x / 2) - 1) * 2 := by rw [← Nat.pow_succ]; congr 1; omega
        omega
theorem bitLen_le (x : Nat) (h : x < 2 ^ 64) : Lib.bitLen x ≤ 64 := by
  by_cases h0 : x = 0
  · subst h0; decide
  · obtain ⟨h1, h2⟩ := (bitLen_spec x x (Nat.le_refl _) h).2 h0
    rcases Nat.lt_or_ge 64 (Lib.bitLen x) with h3 | h3
    · have : 2 ^ 64 ≤ 2 ^ (Lib.bitLen x - 1) := Nat.pow_le_pow_right (by omega) (by omega)
      omega
    · exact h3
/-- LeadingZeros64: how far a word is shifted till its highest bit is 1. -/
theorem lz64_any (x : Nat) (h0 : 0 < x) (hx : x < 18446744073709551616) (w : World) :
    Calls Tryz.prog 184 #[.int .u64 x] w fun e w' => (∃ s : Nat, s ≤ 63 ∧ 9223372036854775808 ≤ x * 2 ^ s ∧ x * 2 ^ s < 18446744073709551616 ∧ e = .returned (.int .i64 s)) ∧ w = w' := by
  refine (Tryz.bits_LeadingZeros64 x w (by omega) (by omega)).mono fun e w' ⟨h, h'⟩ => ⟨?_, h'.symm⟩
  rw [Int.toNat_natCast] at h
  have h1 := bitLen_le x (by omega)
  obtain ⟨h2, h3⟩ := bitLen_spec x x (Nat.le_refl _) (by omega)
  obtain ⟨h4, h5⟩ := h3 (by omega)
  refine ⟨64 - Lib.bitLen x, by omega, ?_, ?_, by rw [h]; congr 2; omega⟩
  · have := Nat.mul_le_mul_right (2 ^ (64 - Lib.bitLen x)) h4
    rw [← Nat.pow_add, show Lib.bitLen x - 1 + (64 - Lib.bitLen x) = 63 by omega] at this
    omega
  · have := Nat.mul_lt_mul_of_pos_right h2 (Nat.two_pow_pos (64 - Lib.bitLen x))
    rw [← Nat.pow_add, show Lib.bitLen x + (64 - Lib.bitLen x) = 64 by omega] at this
    omega
set_option maxRecDepth 100000 in
set_option maxHeartbeats 1000000 in
theorem div64_small (lo y : Nat) (hlo : lo < 18446744073709551616) (hy : 0 < y) (hy' : y < 18446744073709551616) (w : World) :
    Calls Tryz.prog 170 #[.int .u64 0, .int .u64 lo, .int .u64 y] w fun e w' => e = .returned (.tuple #[.int .u64 ((lo / y : Nat) : Int), .int .u64 ((lo % y : Nat) : Int)]) ∧ Drawn w w' := by
  have h1 : ((y : Int) == 0) = false := by simp; omega
  have h2 : ¬ (y : Int) ≤ 0 := by omega
  go_enter Tryz.func170, Tryz.ntmps170
  go_wp2
  have hq : (lo : Int) / (y : Int) ≤ (lo : Int) := Int.ediv_le_self _ (by omega)
  have hq0 : 0 ≤ (lo : Int) / (y : Int) := Int.ediv_nonneg (by omega) (by omega)
  go_quiet (fail)
  go_wp2
  go_ret2
  exact ⟨by simp, ⟨nq, rfl⟩⟩
theorem two_parts (u L : Nat) : (u * 4294967296 + L / 4294967296) * 4294967296 + L % 4294967296 = u * 18446744073709551616 + L := by omega
theorem wrap_left {a n c R : Int} (h : a + n = c + R) (h0 : 0 ≤ R) (h1 : R < 18446744073709551616) :
    IntKind.u64.wrap (IntKind.u64.wrap (IntKind.u64.wrap a + n) - IntKind.u64.wrap c) = R := by
  simp only [wrap_u64]
  omega
theorem wrap_left2 {a n c R : Int} (h : a + n = c + R) (h0 : 0 ≤ R) (h1 : R < 18446744073709551616) :
    IntKind.u64.wrap (IntKind.u64.wrap (IntKind.u64.wrap a + n) - IntKind.u64.wrap c) = R := wrap_left h h0 h1
/-- What Div64 reckons with, as plain numbers. -/
theorem div_setup {hi lo y s : Nat} (hs : s ≤ 63) (hlo : lo < 18446744073709551616) (hy : hi < y) (hY0 : 9223372036854775808 ≤ y * 2 ^ s) (hY1 : y * 2 ^ s < 18446744073709551616) :
    ∃ Y y1 y0 u L n1 n0 : Nat, IntKind.u64.wrap ((y : Int) * 2 ^ s) = (Y : Int) ∧ (Y : Int) / 4294967296 = (y1 : Int) ∧ bits .and .u64 (Y : Int) 4294967295 = (y0 : Int) ∧
      bits .or .u64 (IntKind.u64.wrap ((hi : Int) * 2 ^ s)) ((lo : Int) / 2 ^ (64 - s)) = (u : Int) ∧ IntKind.u64.wrap ((lo : Int) * 2 ^ s) = (L : Int) ∧ (L : Int) / 4294967296 = (n1 : Int) ∧ bits .and .u64 (L : Int) 4294967295 = (n0 : Int) ∧
      Hid (Y = y1 * 4294967296 + y0) ∧ 2147483648 ≤ y1 ∧ y1 < 4294967296 ∧ y0 < 4294967296 ∧ u < y1 * 4294967296 + y0 ∧ n1 < 4294967296 ∧ n0 < 4294967296 ∧ Hid ((u * 4294967296 + n1) * 4294967296 + n0 = (hi * 18446744073709551616 + lo) * 2 ^ s) ∧ Hid (y1 * 4294967296 + y0 = y * 2 ^ s) := by
  obtain ⟨g1, g2, g3, g4⟩ := shl_parts hs hlo hy hY1
  have e1 : ∀ a : Nat, (a : Int) * 2 ^ s = ((a * 2 ^ s : Nat) : Int) := fun a => by push_cast; rfl
  have e2 : (lo : Int) / 2 ^ (64 - s) = ((lo / 2 ^ (64 - s) : Nat) : Int) := by push_cast; rfl
  have hm := Nat.mod_lt (lo * 2 ^ s) (show 0 < 18446744073709551616 by omega)
  have hand : ∀ a : Nat, a < 18446744073709551616 → bits .and .u64 (a : Int) 4294967295 = ((a % 4294967296 : Nat) : Int) := fun a ha => by
    rw [show (4294967295 : Int) = ((4294967295 : Nat) : Int) from rfl, u64_and_nat a _ ha (by omega), nat_mask32]
  refine ⟨y * 2 ^ s, y * 2 ^ s / 4294967296, y * 2 ^ s % 4294967296, hi * 2 ^ s + lo / 2 ^ (64 - s), lo * 2 ^ s % 18446744073709551616, lo * 2 ^ s % 18446744073709551616 / 4294967296, lo * 2 ^ s % 18446744073709551616 % 4294967296, ?_, ?_, ?_, ?_, ?_, ?_, ?_, ?_, ?_, ?_, ?_, ?_, ?_, ?_, ?_, ?_⟩
  · rw [e1, wrap_u64]; omega
  · omega
  · exact hand _ hY1
  · rw [e1, e2, wrap_u64, show ((hi * 2 ^ s : Nat) : Int) % 18446744073709551616 = ((hi * 2 ^ s : Nat) : Int) by omega, u64_or_nat _ _ g2 (by omega), nat_join s _ _ (Nat.mul_mod_left _ _) g1]
  · rw [e1, wrap_u64]; omega
  · omega
  · exact hand _ hm
  · refine Lib.hid ?_; omega
  · omega
  · omega
  · omega
  · omega
  · omega
  · omega
  · rw [← g3]
    exact Lib.hid (two_parts _ _)
  · exact Lib.hid (Nat.div_add_mod' _ _)
set_option maxRecDepth 100000 in
set_option maxHeartbeats 1000000 in
theorem div64_great (hi lo y : Nat) (hlo : lo < 18446744073709551616) (hy : hi < y) (hy' : y < 18446744073709551616) (hh : 0 < hi) (w : World) :
    Calls Tryz.prog 170 #[.int .u64 hi, .int .u64 lo, .int .u64 y] w fun e w' => e = .returned (.tuple #[.int .u64 (((hi * 18446744073709551616 + lo) / y : Nat) : Int), .int .u64 (((hi * 18446744073709551616 + lo) % y : Nat) : Int)]) ∧ Drawn w w' := by
  have h1 : ((y : Int) == 0) = false := by simp; omega
  have h2 : ¬ (y : Int) ≤ (hi : Int) := by omega
  have h3 : ((hi : Int) == 0) = false := by simp; omega
  go_enter Tryz.func170, Tryz.ntmps170
  go_wp2_with fail
  refine (lz64_any y (by omega) hy' _).mono ?_
  rintro e w1 ⟨⟨s, hs, hY0, hY1, rfl⟩, rfl⟩
  obtain ⟨Y, y1, y0, u, L, n1, n0, a1, a2, a3, a4, a5, a6, a7, hY, b1, b2, b3, b4, b5, b6, hN, hYs⟩ := div_setup hs hlo hy hY0 hY1
  obtain ⟨q, hq⟩ : ∃ q, u / y1 = q := ⟨_, rfl⟩
  have hst := QRel.start b1 b2 b3 b5 b4
  rw [hq] at hst
  obtain ⟨r, hr⟩ : ∃ r, u - q * y1 = r := ⟨_, rfl⟩
  rw [hr] at hst
  have hq1 : (u : Int) / (y1 : Int) = (q : Int) := by rw [← hq]; push_cast; rfl
  have hsum := hst.sum
  have hm : ((q : Int) * (y1 : Int)) = ((q * y1 : Nat) : Int) := by push_cast; rfl
  have hm0 : 0 ≤ (q : Int) * (y1 : Int) := by omega
  have hm1 : (q : Int) * (y1 : Int) ≤ (u : Int) := by omega
  have hr1 : (u : Int) - (q : Int) * (y1 : Int) = (r : Int) := by omega
  have htop := hst.top
  clear hm
  replace hsum := Lib.hid hsum
  replace hq := Lib.hid hq
  replace hr := Lib.hid hr
  go_upto_block 0 with (fail)
  go_cut [15] (fun qq wx => qq = .int .u64 (((u * 4294967296 + n1) / (y1 * 4294967296 + y0) : Nat) : Int) ∧ wx = w)
  case first =>
    go_wp2
    go_loop [15, 16] (fun qq rr => ∃ qh rh : Nat, qq = .int .u64 qh ∧ rr = .int .u64 rh ∧ QRel y1 y0 u n1 qh rh) (fun qq _ => (intOf qq).toNat)
    case atStart => exact ⟨q, r, rfl, rfl, hst⟩
    case round =>
      obtain ⟨qh, rh, rfl, rfl, hR⟩ := hrel
      have ht := hR.top
      have hl := hR.left
      have hp0 : 0 ≤ (qh : Int) * (y0 : Int) := Int.mul_nonneg (by omega) (by omega)
      by_cases c1 : 4294967296 ≤ qh
      · obtain ⟨m1, m2, m3⟩ := hR.mend b4 b5 (.inl c1)
        have c1' : (4294967296 : Int) ≤ (qh : Int) := by omega
        by_cases c3 : rh + y1 < 4294967296
        · have c3' : ¬ (4294967296 : Int) ≤ (rh : Int) + (y1 : Int) := by omega
          go_wp2
          exact ⟨⟨qh - 1, rh + y1, by rw [show ((qh - 1 : Nat) : Int) = (qh : Int) - 1 by omega], by go_num, m2 c3⟩, by simp [intOf]; omega⟩
        · have c3' : (4294967296 : Int) ≤ (rh : Int) + (y1 : Int) := by omega
          have hd := Lib.hid (m3 b3 (by omega))
          clear m2 m3
          go_wp2
          go_meet
          case rel => exact ⟨by rw [← hd.out, show ((qh - 1 : Nat) : Int) = (qh : Int) - 1 by omega], rfl⟩
      · have hp1 : (qh : Int) * (y0 : Int) < 18446744073709551616 := by
          have : qh * y0 ≤ 4294967296 * 4294967295 := Nat.mul_le_mul (by omega) (by omega)
          have e : (qh : Int) * (y0 : Int) = ((qh * y0 : Nat) : Int) := (Int.natCast_mul _ _).symm
          omega
        have c1' : ¬ (4294967296 : Int) ≤ (qh : Int) := by omega
        by_cases c2 : 4294967296 * rh + n1 < qh * y0
        · obtain ⟨m1, m2, m3⟩ := hR.mend b4 b5 (.inr c2)
          have c2' : 4294967296 * (rh : Int) + (n1 : Int) < (qh : Int) * (y0 : Int) := by
            have e : (qh : Int) * (y0 : Int) = ((qh * y0 : Nat) : Int) := (Int.natCast_mul _ _).symm
            omega
          by_cases c3 : rh + y1 < 4294967296
          · have c3' : ¬ (4294967296 : Int) ≤ (rh : Int) + (y1 : Int) := by omega
            go_wp2
            exact ⟨⟨qh - 1, rh + y1, by rw [show ((qh - 1 : Nat) : Int) = (qh : Int) - 1 by omega], by go_num, m2 c3⟩, by simp [intOf]; omega⟩
          · have c3' : (4294967296 : Int) ≤ (rh : Int) + (y1 : Int) := by omega
            have hd := Lib.hid (m3 b3 (by omega))
            clear m2 m3
            go_wp2
            go_meet
            case rel => exact ⟨by rw [← hd.out, show ((qh - 1 : Nat) : Int) = (qh : Int) - 1 by omega], rfl⟩
        · have c2' : ¬ 4294967296 * (rh : Int) + (n1 : Int) < (qh : Int) * (y0 : Int) := by
            have e : (qh : Int) * (y0 : Int) = ((qh * y0 : Nat) : Int) := (Int.natCast_mul _ _).symm
            omega
          have hd := Lib.hid (hR.done (by omega))
          go_wp2
          go_meet
          case rel => exact ⟨by rw [hd.out], rfl⟩
  case rest =>
    obtain ⟨rfl, rfl⟩ := hcut
    have hYp : 0 < y1 * 4294967296 + y0 := by omega
    have hqlt := digit_lt b4 b5
    have hlt := Nat.mod_lt (u * 4294967296 + n1) hYp
    have hdm := Nat.div_add_mod (u * 4294967296 + n1) (y1 * 4294967296 + y0)
    obtain ⟨t1, t2⟩ := two_digits_b (b := 4294967296) (u := u) (n1 := n1) (n0 := n0) hYp
    obtain ⟨Q, hQ⟩ : ∃ Q, (u * 4294967296 + n1) / (y1 * 4294967296 + y0) = Q := ⟨_, rfl⟩
    obtain ⟨R, hR⟩ : ∃ R, (u * 4294967296 + n1) % (y1 * 4294967296 + y0) = R := ⟨_, rfl⟩
    rw [hQ] at hqlt hdm t1 ⊢
    rw [hR] at hlt hdm t1 t2
    have hE := wrap_left (a := (u : Int) * 4294967296) (n := (n1 : Int)) (c := (Q : Int) * (Y : Int)) (R := (R : Int)) (by
      rw [← hY.out, Nat.mul_comm] at hdm
      have := congrArg (Nat.cast : Nat → Int) hdm
      rw [Int.natCast_add, Int.natCast_mul, Int.natCast_add, Int.natCast_mul] at this
      exact this.symm) (by omega) (by have := hY.out; omega)
    replace t1 := Lib.hid t1
    replace t2 := Lib.hid t2
    replace hdm := Lib.hid hdm
    replace hQ := Lib.hid hQ
    replace hR := Lib.hid hR
    have hlt' := hlt
    obtain ⟨q2, hq2⟩ : ∃ q2, R / y1 = q2 := ⟨_, rfl⟩
    have hst2 := QRel.start b1 b2 b3 b6 hlt
    rw [hq2] at hst2
    obtain ⟨r2, hr2⟩ : ∃ r2, R - q2 * y1 = r2 := ⟨_, rfl⟩
    rw [hr2] at hst2
    have hq12 : (R : Int) / (y1 : Int) = (q2 : Int) := by rw [← hq2]; push_cast; rfl
    have hsum2 := hst2.sum
    have hm2 : ((q2 : Int) * (y1 : Int)) = ((q2 * y1 : Nat) : Int) := by push_cast; rfl
    have hm02 : 0 ≤ (q2 : Int) * (y1 : Int) := by omega
    have hm12 : (q2 : Int) * (y1 : Int) ≤ (R : Int) := by omega
    have hr12 : (R : Int) - (q2 : Int) * (y1 : Int) = (r2 : Int) := by omega
    have htop2 := hst2.top
    clear hm2
    replace hsum2 := Lib.hid hsum2
    replace hq2 := Lib.hid hq2
    replace hr2 := Lib.hid hr2
    go_upto_block 2 with (fail)
    go_cut [18] (fun qq wx => qq = .int .u64 (((R * 4294967296 + n0) / (y1 * 4294967296 + y0) : Nat) : Int) ∧ wx = wc)
    case first =>
      go_wp2
      go_loop [18, 16] (fun qq rr => ∃ qh rh : Nat, qq = .int .u64 qh ∧ rr = .int .u64 rh ∧ QRel y1 y0 R n0 qh rh) (fun qq _ => (intOf qq).toNat)
      case atStart => exact ⟨q2, r2, rfl, rfl, hst2⟩
      case round =>
        obtain ⟨qh, rh, rfl, rfl, hR⟩ := hrel
        have ht := hR.top
        have hl := hR.left
        have hp0 : 0 ≤ (qh : Int) * (y0 : Int) := Int.mul_nonneg (by omega) (by omega)
        by_cases c1 : 4294967296 ≤ qh
        · obtain ⟨m1, m2, m3⟩ := hR.mend hlt b6 (.inl c1)
          have c1' : (4294967296 : Int) ≤ (qh : Int) := by omega
          by_cases c3 : rh + y1 < 4294967296
          · have c3' : ¬ (4294967296 : Int) ≤ (rh : Int) + (y1 : Int) := by omega
            go_wp2
            exact ⟨⟨qh - 1, rh + y1, by rw [show ((qh - 1 : Nat) : Int) = (qh : Int) - 1 by omega], by go_num, m2 c3⟩, by simp [intOf]; omega⟩
          · have c3' : (4294967296 : Int) ≤ (rh : Int) + (y1 : Int) := by omega
            have hd := Lib.hid (m3 b3 (by omega))
            clear m2 m3
            go_wp2
            go_meet
            case rel => exact ⟨by rw [← hd.out, show ((qh - 1 : Nat) : Int) = (qh : Int) - 1 by omega], rfl⟩
        · have hp1 : (qh : Int) * (y0 : Int) < 18446744073709551616 := by
            have : qh * y0 ≤ 4294967296 * 4294967295 := Nat.mul_le_mul (by omega) (by omega)
            have e : (qh : Int) * (y0 : Int) = ((qh * y0 : Nat) : Int) := (Int.natCast_mul _ _).symm
            omega
          have c1' : ¬ (4294967296 : Int) ≤ (qh : Int) := by omega
          by_cases c2 : 4294967296 * rh + n0 < qh * y0
          · obtain ⟨m1, m2, m3⟩ := hR.mend hlt b6 (.inr c2)
            have c2' : 4294967296 * (rh : Int) + (n0 : Int) < (qh : Int) * (y0 : Int) := by
              have e : (qh : Int) * (y0 : Int) = ((qh * y0 : Nat) : Int) := (Int.natCast_mul _ _).symm
              omega
            by_cases c3 : rh + y1 < 4294967296
            · have c3' : ¬ (4294967296 : Int) ≤ (rh : Int) + (y1 : Int) := by omega
              go_wp2
              exact ⟨⟨qh - 1, rh + y1, by rw [show ((qh - 1 : Nat) : Int) = (qh : Int) - 1 by omega], by go_num, m2 c3⟩, by simp [intOf]; omega⟩
            · have c3' : (4294967296 : Int) ≤ (rh : Int) + (y1 : Int) := by omega
              have hd := Lib.hid (m3 b3 (by omega))
              clear m2 m3
              go_wp2
              go_meet
              case rel => exact ⟨by rw [← hd.out, show ((qh - 1 : Nat) : Int) = (qh : Int) - 1 by omega], rfl⟩
          · have c2' : ¬ 4294967296 * (rh : Int) + (n0 : Int) < (qh : Int) * (y0 : Int) := by
              have e : (qh : Int) * (y0 : Int) = ((qh * y0 : Nat) : Int) := (Int.natCast_mul _ _).symm
              omega
            have hd := Lib.hid (hR.done (by omega))
            go_wp2
            go_meet
            case rel => exact ⟨by rw [hd.out], rfl⟩
    case rest =>
      obtain ⟨rfl, rfl⟩ := hcut
      have hdm2 := Nat.div_add_mod (R * 4294967296 + n0) (y1 * 4294967296 + y0)
      have hlt2 := Nat.mod_lt (R * 4294967296 + n0) hYp
      have hqlt2 := digit_lt hlt' b6
      have t1' := t1.out
      have t2' := t2.out
      rw [hN.out, hYs.out, (scaled (Nat.two_pow_pos s)).1] at t1'
      have t3 := (scaled (N := hi * 18446744073709551616 + lo) (y := y) (Nat.two_pow_pos s)).2
      rw [hN.out, hYs.out] at t2'
      rw [← t2', ← hYs.out] at t3
      rw [← hYs.out] at t1'
      obtain ⟨Q2, hQ2⟩ : ∃ Q2, (R * 4294967296 + n0) / (y1 * 4294967296 + y0) = Q2 := ⟨_, rfl⟩
      obtain ⟨R2, hR2⟩ : ∃ R2, (R * 4294967296 + n0) % (y1 * 4294967296 + y0) = R2 := ⟨_, rfl⟩
      rw [hQ2] at t1' hdm2 hqlt2 ⊢
      rw [hR2] at t3 hdm2 hlt2
      replace hQ2 := Lib.hid hQ2
      replace hR2 := Lib.hid hR2
      have hE2 := wrap_left2 (a := (R : Int) * 4294967296) (n := (n0 : Int)) (c := (Q2 : Int) * (Y : Int)) (R := (R2 : Int)) (by
        rw [← hY.out, Nat.mul_comm] at hdm2
        have := congrArg (Nat.cast : Nat → Int) hdm2
        rw [Int.natCast_add, Int.natCast_mul, Int.natCast_add, Int.natCast_mul] at this
        exact this.symm) (by omega) (by have := hY.out; omega)
      clear t2' hdm2
      replace t1' := Lib.hid t1'
      replace t3 := Lib.hid t3
      clear t1 t2
      go_wp2
      go_ret2
      exact ⟨by rw [← t1'.out, ← t3.out, Int.natCast_add, Int.natCast_mul, Int.natCast_ediv, Int.natCast_pow]; rfl, .refl _⟩
theorem div64_any (hi lo y : Nat) (hlo : lo < 18446744073709551616) (hy : hi < y) (hy' : y < 18446744073709551616) (w : World) :
    Calls Tryz.prog 170 #[.int .u64 hi, .int .u64 lo, .int .u64 y] w fun e w' => e = .returned (.tuple #[.int .u64 (((hi * 18446744073709551616 + lo) / y : Nat) : Int), .int .u64 (((hi * 18446744073709551616 + lo) % y : Nat) : Int)]) ∧ Drawn w w' := by
  rcases Nat.eq_zero_or_pos hi with h | h
  · subst h
    rw [Nat.zero_mul, Nat.zero_add]
    exact div64_small lo y hlo hy hy' w
  · exact div64_great hi lo y hlo hy hy' h w
end Go.Proofs.YtncfbleeidjflaaGreatDoor
namespace Go.Proofs.YtncfbleeidjflaaGreatDoor
open Go.RowKit Go.Cal
/-- What stands at the head of a round of a division by a word: the words from place m on are divided. -/
structure ShortRel (b : Nat) (xs L : List Nat) (y m left : Nat) : Prop where
  len : L.length = xs.length
  dig : Dig b L
  rest : left < y
  low : ∀ i, i < m → L.getD i 0 = 0
  val : vl b (L.drop m) * y + left = vl b (xs.drop m)
theorem ShortRel.start {b : Nat} (hb : 0 < b) (xs : List Nat) {y : Nat} (hy : 0 < y) : ShortRel b xs (List.replicate xs.length 0) y xs.length 0 :=
  ⟨by simp, dig_zeros hb _, hy, fun i _ => by simp [List.getD_eq_getElem?_getD, List.getElem?_replicate]; split <;> rfl, by rw [List.drop_of_length_le (by simp), List.drop_of_length_le (by simp)]; simp [vl]⟩
theorem ShortRel.step {b : Nat} {xs L : List Nat} {y m left x q r : Nat} (h : ShortRel b xs L y (m + 1) left) (hm : m < xs.length) (hx : xs.getD m 0 = x) (hq : q < b) (hr : r < y) (he : left * b + x = q * y + r) :
    ShortRel b xs (L.set m q) y m r := by
  have hlen := h.len
  refine ⟨by rw [List.length_set, h.len], dig_set h.dig _ hq, hr, fun i hi => by rw [Go.Cal.getD_set_ne (by omega)]; exact h.low i (by omega), ?_⟩
  rw [vl_drop (L.set m q) m (by simp; omega), vl_drop xs m hm, getD_set_eq (by omega), hx, List.drop_set_of_lt (by omega)]
  have := h.val
  have e : b * (vl b (L.drop (m + 1)) * y + left) = b * vl b (xs.drop (m + 1)) := by rw [this]
  rw [Nat.mul_add, ← Nat.mul_assoc] at e
  rw [Nat.add_mul]
  rw [Nat.mul_comm left b] at he
  omega
/-- A quotient by a word, and what is left. -/
def RetShort (w : World) (N y : Nat) (e : Ending) (w' : World) : Prop :=
  ∃ A c zs, e = .returned (.tuple #[.slice A (zs : List Nat).length c, .int .u64 ((N % y : Nat) : Int)]) ∧ GotU w' w.heap.size A c zs ∧ Nrm zs (N / y) ∧ Below w.heap.size w w'
set_option maxRecDepth 100000 in
set_option maxHeartbeats 1000000 in
theorem short_any {A1 : Option Addr} {xs : List Nat} (c1 y : Nat) (w : World) (h1 : RdU w w.heap.size A1 xs) (hn1 : xs.length ≤ 549755813888) (d1 : Dig 18446744073709551616 xs) (hy : 0 < y) (hy' : y < 18446744073709551616) :
    Calls Tryz.prog 107 #[.slice A1 xs.length c1, .int .u64 y] w (RetShort w (vl 18446744073709551616 xs) y) := by
  have hmk := run_makeU (P := Tryz.prog) 33 22 under_nat info_u64 xs.length (by omega)
  replace d1 := Lib.hid d1
  go_enter Tryz.func107, Tryz.ntmps107
  go_wp2
  clear hmk
  go_loopw [7, 8] (fun lv iv wr => ∃ (m left : Nat) (L : List Nat), m ≤ xs.length ∧ iv = .int .i64 ((m : Int) - 1) ∧ lv = .int .u64 left ∧ BlkU wr w.heap.size 22 L ∧ Below w.heap.size w wr ∧ ShortRel 18446744073709551616 xs L y m left) (fun _ iv _ => (intOf iv + 1).toNat)
  case atStart => exact ⟨xs.length, 0, _, by omega, rfl, rfl, BlkU.made w 22 _, (Below.refl _ _).alloc (Nat.le_refl _) _, .start (by omega) xs hy⟩
  case round =>
    obtain ⟨m, left, L, hm, rfl, rfl, hB, hbw, hR⟩ := hrel
    have hz := hbw.size
    by_cases h0 : m = 0
    · subst h0
      have hv : vl 18446744073709551616 L = vl 18446744073709551616 xs / y ∧ left = vl 18446744073709551616 xs % y := by
        have := hR.val
        have hl := hR.rest
        rw [List.drop_zero, List.drop_zero] at this
        rw [← this, Nat.mul_comm, Nat.mul_add_div hy, Nat.mul_add_mod, Nat.div_eq_of_lt hl, Nat.mod_eq_of_lt hl]
        exact ⟨rfl, rfl⟩
      replace hv := Lib.hid hv
      go_wp2_with fail
      refine (trim_made _ hB (Nat.le_refl _) hbw hR.len (Nat.le_refl _) (by omega) hR.dig hv.out.1).mono ?_
      rintro e w1 ⟨A, c', zs, rfl, hg, hnrm, hb⟩
      go_wp2
      go_ret2
      exact ⟨A, c', zs, by rw [← hv.out.2]; rfl, hg, hnrm, hb⟩
    · obtain ⟨m, rfl⟩ : ∃ k, m = k + 1 := ⟨m - 1, by omega⟩
      have hmm : m < xs.length := by omega
      have hi : (m : Int) < (xs.length : Int) := by omega
      obtain ⟨b, off, rfl, hb, hcx⟩ := (h1.below hbw).at hmm
      have hx0 := hcx m hmm
      clear hcx
      obtain ⟨x, hxx⟩ : ∃ x, xs.getD m 0 = x := ⟨_, rfl⟩
      have hx1 : x < 18446744073709551616 := hxx ▸ dig_getD (by omega) d1.out m
      rw [hxx] at hx0
      rw [show ((m + 1 : Nat) : Int) - 1 = (m : Int) by omega]
      have hcell := hB.cell m (by rw [hR.len]; omega)
      have hfr := hB.frozen m
      have hdv := div64_any left x y hx1 hR.rest hy' wr
      have hlt : (left * 18446744073709551616 + x) / y < 18446744073709551616 := by
        rw [Nat.div_lt_iff_lt_mul hy]
        have : (left + 1) * 18446744073709551616 ≤ y * 18446744073709551616 := Nat.mul_le_mul_right _ hR.rest
        rw [Nat.mul_comm 18446744073709551616 y]
        omega
      have hst := hR.step hmm hxx hlt (Nat.mod_lt _ hy) (Nat.div_add_mod' (left * 18446744073709551616 + x) y).symm
      have hset := fun (w1 : World) (h : BlkU w1 w.heap.size 22 L) => h.set m ((left * 18446744073709551616 + x) / y)
      obtain ⟨q, hq⟩ : ∃ q, (left * 18446744073709551616 + x) / y = q := ⟨_, rfl⟩
      obtain ⟨r, hr⟩ : ∃ r, (left * 18446744073709551616 + x) % y = r := ⟨_, rfl⟩
      rw [hq] at hdv hst hset
      rw [hr] at hdv hst
      replace hq := Lib.hid hq
      replace hr := Lib.hid hr
      replace hxx := Lib.hid hxx
      replace hdv := Lib.hid hdv
      replace hset := Lib.hid hset
      generalize L.getD m 0 = o at *
      go_wp2_with fail
      refine hdv.out.mono ?_
      rintro e w1 ⟨rfl, n, rfl⟩
      go_wp2
      exact ⟨⟨m, r, _, by omega, rfl, rfl, hset.out _ hB, (hbw.trans (Drawn.below ⟨n, rfl⟩ _)).setCell (Nat.le_refl _) _, hst⟩, by simp [intOf]⟩
end Go.Proofs.YtncfbleeidjflaaGreatDoor
