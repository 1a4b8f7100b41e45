/- The nat layer, fifth part: products. Conditions: lengths below 2^38. -/
import Derived.Test.YtdlkfnkmdlcekaaGreatDoorTp07
import Derived.Test.YtdlkfnkmdlcekaaGreatDoorTp03
namespace Go.Proofs.YtdlkfnkmdlcekaaGreatDoor
open Go.RowKit Go.Cal
theorem mul64_any (x y : Nat) (hx : x < 18446744073709551616) (hy : y < 18446744073709551616) (w : World) :
    Calls Tryz.prog 95 #[.int .u64 x, .int .u64 y] w fun e w' => e = .returned (.tuple #[.int .u64 ((x * y / 18446744073709551616 : Nat) : Int), .int .u64 ((x * y % 18446744073709551616 : Nat) : Int)]) ∧ w = w' :=
  (Tryz.bits_Mul64 x y hx hy w).mono fun _ _ ⟨h, h'⟩ => ⟨h, h'.symm⟩
theorem run_add64_0 (x y : Nat) (w : World) :
    (callFunc 96 #[.int .u64 x, .int .u64 y, .int .u64 0]).run Tryz.prog w =
      .ok (.value (.tuple #[.int .u64 (((x + y) % 18446744073709551616 : Nat) : Int), .int .u64 (((x + y) / 18446744073709551616 : Nat) : Int)])) w := by
  have := run_add64 x y 0 (by omega) w
  rw [Nat.add_zero] at this
  exact this
theorem mul_words {x y c o : Nat} (hx : x < 18446744073709551616) (hy : y < 18446744073709551616) (hc : c < 18446744073709551616) (ho : o < 18446744073709551616) :
    x * y / 18446744073709551616 + (x * y % 18446744073709551616 + c) / 18446744073709551616 < 18446744073709551616 ∧
    x * y / 18446744073709551616 + (x * y % 18446744073709551616 + c) / 18446744073709551616 + (o + (x * y % 18446744073709551616 + c) % 18446744073709551616) / 18446744073709551616 < 18446744073709551616 ∧
    o + x * y + c = (o + (x * y % 18446744073709551616 + c) % 18446744073709551616) % 18446744073709551616 + 18446744073709551616 * (x * y / 18446744073709551616 + (x * y % 18446744073709551616 + c) / 18446744073709551616 + (o + (x * y % 18446744073709551616 + c) % 18446744073709551616) / 18446744073709551616) := by
  have h : x * y ≤ 18446744073709551615 * 18446744073709551615 := Nat.mul_le_mul (by omega) (by omega)
  omega
/-- What stands at the head of an inner round of a product: k words of ys have been taken in, at place i, by the word x. -/
structure MulRel (b : Nat) (xs ys L : List Nat) (i k c : Nat) : Prop where
  len : L.length = xs.length + ys.length
  dig : Dig b L
  carry : c < b
  zero : ∀ j, i + ys.length ≤ j → L.getD j 0 = 0
  sum : vl b L + b ^ (i + k) * c = vl b (xs.take i) * vl b ys + b ^ i * (xs.getD i 0 * vl b (ys.take k))
theorem MulRel.start {b : Nat} (hb : 0 < b) (xs ys : List Nat) : MulRel b xs ys (List.replicate (xs.length + ys.length) 0) 0 0 0 :=
  ⟨by simp, dig_zeros hb _, hb, fun i _ => by simp [List.getD_eq_getElem?_getD, List.getElem?_replicate]; split <;> rfl, by simp [vl, vl_zeros]⟩
theorem MulRel.step {b : Nat} {xs ys L : List Nat} {i k c x y o : Nat} (h : MulRel b xs ys L i k c) (hi : i < xs.length) (hk : k < ys.length) (hx : xs.getD i 0 = x) (hy : ys.getD k 0 = y) (ho : L.getD (i + k) 0 = o) {s c' : Nat} (hs : s < b) (hc' : c' < b)
    (he : o + x * y + c = s + b * c') : MulRel b xs ys (L.set (i + k) s) i (k + 1) c' := by
  refine ⟨by rw [List.length_set, h.len], dig_set h.dig _ hs, hc', fun j hj => by rw [Go.Cal.getD_set_ne (by omega)]; exact h.zero j hj, ?_⟩
  have h1 := vl_set (b := b) L (i + k) s (by rw [h.len]; omega)
  have h2 := h.sum
  rw [hx] at h2
  rw [vl_getD, hx, hy]
  rw [ho] at h1
  have h3 : b ^ (i + k) * (o + x * y + c) = b ^ (i + k) * (s + b * c') := by rw [he]
  have h4 : b ^ i * (x * (vl b (ys.take k) + b ^ k * y)) = b ^ i * (x * vl b (ys.take k)) + b ^ (i + k) * (x * y) := by
    rw [Nat.mul_add x, Nat.mul_add, Nat.pow_add]
    congr 1
    rw [Nat.mul_left_comm x, Nat.mul_assoc]
  rw [h4, show i + (k + 1) = i + k + 1 by omega, Nat.pow_succ, Nat.mul_assoc]
  simp only [Nat.mul_add] at h3
  omega
theorem MulRel.next {b : Nat} (hb : 0 < b) {xs ys L : List Nat} {i c : Nat} (h : MulRel b xs ys L i ys.length c) (hi : i < xs.length) : MulRel b xs ys (L.set (i + ys.length) c) (i + 1) 0 0 := by
  refine ⟨by rw [List.length_set, h.len], dig_set h.dig _ h.carry, hb, fun j hj => by rw [Go.Cal.getD_set_ne (by omega)]; exact h.zero j (by omega), ?_⟩
  have h1 := vl_set (b := b) L (i + ys.length) c (by rw [h.len]; omega)
  rw [h.zero _ (Nat.le_refl _), Nat.mul_zero, Nat.add_zero] at h1
  have h2 := h.sum
  rw [vl_take_all ys _ (Nat.le_refl _)] at h2
  rw [vl_getD, List.take_zero]
  simp only [vl, Nat.mul_zero, Nat.add_zero]
  rw [h1, h2, Nat.add_mul, Nat.mul_assoc]
set_option maxRecDepth 100000 in
set_option maxHeartbeats 1000000 in
theorem mul_any {A1 A2 : Option Addr} {xs ys : List Nat} (c1 c2 : Nat) (w : World) (h1 : RdU w w.heap.size A1 xs) (h2 : RdU w w.heap.size A2 ys) (hn1 : xs.length ≤ 274877906944) (hn2 : ys.length ≤ 274877906944)
    (d1 : Dig 18446744073709551616 xs) (d2 : Dig 18446744073709551616 ys) :
    Calls Tryz.prog 67 #[.slice A1 xs.length c1, .slice A2 ys.length c2] w (RetN w (vl 18446744073709551616 xs * vl 18446744073709551616 ys)) := by
  have hmk := run_makeU (P := Tryz.prog) 53 22 under_nat info_u64 (xs.length + ys.length) (by omega)
  rw [Int.natCast_add] at hmk
  replace d1 := Lib.hid d1
  replace d2 := Lib.hid d2
  go_enter Tryz.func67, Tryz.ntmps67
  go_wp2
  clear hmk
  go_loopw [6, 7, 8, 9, 10, 11, 12, 13, 22, 27, 28, 29] (fun _ _ _ _ _ _ _ _ iv _ _ _ wr => ∃ (i : Nat) (L : List Nat), i ≤ xs.length ∧ iv = .int .i64 i ∧ BlkU wr w.heap.size 22 L ∧ Below w.heap.size w wr ∧ MulRel 18446744073709551616 xs ys L i 0 0) (fun _ _ _ _ _ _ _ _ iv _ _ _ _ => xs.length - (intOf iv).toNat)
  case atStart => exact ⟨0, _, by omega, rfl, BlkU.made w 22 _, (Below.refl _ _).alloc (Nat.le_refl _) _, .start (by omega) xs ys⟩
  case round =>
    obtain ⟨i, L, hi, rfl, hB, hbw, hR⟩ := hrel
    have hz := hbw.size
    by_cases him : i < xs.length
    · have hii : (i : Int) < (xs.length : Int) := by omega
      obtain ⟨b, off, rfl, hb, hcx⟩ := (h1.below hbw).at him
      have hx0 := hcx i him
      clear hcx
      obtain ⟨x, hxx⟩ : ∃ x, xs.getD i 0 = x := ⟨_, rfl⟩
      have hx1 : x < 18446744073709551616 := hxx ▸ dig_getD (by omega) d1.out i
      rw [hxx] at hx0
      replace hxx := Lib.hid hxx
      obtain ⟨wo, rfl⟩ : ∃ wo : World, wo = wr := ⟨_, rfl⟩
      go_wp2
      go_loopw [8, 9, 10, 11, 12, 13, 29] (fun cv _ _ _ _ _ kv wr => ∃ (k c : Nat) (L : List Nat), k ≤ ys.length ∧ kv = .int .i64 k ∧ cv = .int .u64 c ∧ BlkU wr w.heap.size 22 L ∧ Below w.heap.size w wr ∧ MulRel 18446744073709551616 xs ys L i k c) (fun _ _ _ _ _ _ kv _ => ys.length - (intOf kv).toNat)
      case atStart => exact ⟨0, 0, L, by omega, rfl, rfl, hB, hbw, hR⟩
      case round =>
        clear hR hB hbw hx0
        obtain ⟨k, c, L, hk, rfl, rfl, hB, hbw, hR⟩ := hrel
        by_cases hkm : k < ys.length
        · have hkk : (k : Int) < (ys.length : Int) := by omega
          obtain ⟨b2, off2, rfl, hb2, hcy⟩ := (h2.below hbw).at hkm
          have hy0 := hcy k hkm
          clear hcy
          obtain ⟨y, hyy⟩ : ∃ y, ys.getD k 0 = y := ⟨_, rfl⟩
          have hy1 : y < 18446744073709551616 := hyy ▸ dig_getD (by omega) d2.out k
          rw [hyy] at hy0
          obtain ⟨o, hoo⟩ : ∃ o, L.getD (i + k) 0 = o := ⟨_, rfl⟩
          have ho1 : o < 18446744073709551616 := hoo ▸ dig_getD (by omega) hR.dig _
          have hlen : i + k < L.length := by rw [hR.len]; omega
          have hcell := hB.cell (i + k) hlen
          rw [hoo] at hcell
          have hfr := hB.frozen (i + k)
          go_wp2_with fail
          refine (mul64_any x y hx1 hy1 _).mono ?_
          rintro e w1 ⟨rfl, rfl⟩
          have hw := mul_words hx1 hy1 hR.carry ho1
          have ha1 := run_add64_0 (x * y % 18446744073709551616) c
          have ha2 := run_add64_0 o ((x * y % 18446744073709551616 + c) % 18446744073709551616)
          obtain ⟨hw1, hw2, hw3⟩ := hw
          have hst := hR.step him hkm hxx.out hyy hoo (Nat.mod_lt _ (by omega)) hw2 hw3
          have hset := hB.set (i + k) ((o + (x * y % 18446744073709551616 + c) % 18446744073709551616) % 18446744073709551616)
          clear hw3
          replace hyy := Lib.hid hyy
          replace hoo := Lib.hid hoo
          generalize x * y / 18446744073709551616 = p at *
          generalize (x * y % 18446744073709551616 + c) / 18446744073709551616 = c3 at *
          generalize (o + (x * y % 18446744073709551616 + c) % 18446744073709551616) / 18446744073709551616 = c4 at *
          generalize (o + (x * y % 18446744073709551616 + c) % 18446744073709551616) % 18446744073709551616 = s at *
          generalize (x * y % 18446744073709551616 + c) % 18446744073709551616 = l1 at *
          generalize x * y % 18446744073709551616 = l0 at *
          have hw1' : (p : Int) + (c3 : Int) < 18446744073709551616 := by omega
          have hw2' : (p : Int) + (c3 : Int) + (c4 : Int) < 18446744073709551616 := by omega
          have hik : (i : Int) + (k : Int) < (xs.length : Int) + (ys.length : Int) := by omega
          have hik0 : ((i : Int) + (k : Int)).toNat = i + k := by omega
          go_wp2
          exact ⟨⟨k + 1, p + c3 + c4, _, by omega, by go_num, by go_num, hset, hbw.setCell (Nat.le_refl _) _, hst⟩, by simp [intOf]; omega⟩
        · have hk' : k = ys.length := by omega
          subst hk'
          have hlen : i + ys.length < L.length := by rw [hR.len]; omega
          have hcell := hB.cell (i + ys.length) hlen
          have hfr := hB.frozen (i + ys.length)
          have hset := hB.set (i + ys.length) c
          have hst := hR.next (by omega) him
          have hik : (i : Int) + (ys.length : Int) < (xs.length : Int) + (ys.length : Int) := by omega
          have hik0 : ((i : Int) + (ys.length : Int)).toNat = i + ys.length := by omega
          generalize L.getD (i + ys.length) 0 = o at *
          go_wp2
          exact ⟨⟨i + 1, _, by omega, by go_num, hset, hbw.setCell (Nat.le_refl _) _, hst⟩, by simp [intOf]; omega⟩
    · have hi' : i = xs.length := by omega
      subst hi'
      have hv : vl 18446744073709551616 L = vl 18446744073709551616 xs * vl 18446744073709551616 ys := by
        have := hR.sum
        rw [vl_take_all xs _ (Nat.le_refl _), List.take_zero] at this
        simpa [vl] using this
      replace hv := Lib.hid hv
      go_wp2_with fail
      refine (trim_made _ hB (Nat.le_refl _) hbw hR.len (Nat.le_refl _) (by omega) hR.dig hv.out).mono ?_
      rintro e w1 ⟨A, c', zs, rfl, hg, hnrm, hb⟩
      go_wp2
      go_ret
      exact ⟨A, c', zs, rfl, hg, hnrm, hb⟩
end Go.Proofs.YtdlkfnkmdlcekaaGreatDoor
