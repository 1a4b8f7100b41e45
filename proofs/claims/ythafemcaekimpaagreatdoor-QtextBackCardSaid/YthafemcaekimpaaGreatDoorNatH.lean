/- The nat layer: shifts. Conditions: lengths below 2^38. -/
import Derived.Test.YthafemcaekimpaaGreatDoorNatG
namespace Go.Proofs.YthafemcaekimpaaGreatDoor
open Go.RowKit Go.Cal
/-- What stands at the head of a round of a shift: i words are shifted by q words and r bits. -/
structure ShlRel (b : Nat) (xs L : List Nat) (q p i : Nat) : Prop where
  len : L.length = xs.length + q + 1
  dig : Dig b L
  mid : L.getD (i + q) 0 < p
  zero : ∀ j, i + q < j → L.getD j 0 = 0
  val : vl b L = vl b (xs.take i) * (b ^ q * p)
theorem ShlRel.start {b : Nat} (hb : 0 < b) (xs : List Nat) (q p : Nat) (hp : 0 < p) : ShlRel b xs (List.replicate (xs.length + q + 1) 0) q p 0 := by
  have hz : ∀ j, (List.replicate (xs.length + q + 1) 0).getD j 0 = 0 := fun j => by
    simp [List.getD_eq_getElem?_getD, List.getElem?_replicate]; split <;> rfl
  exact ⟨by simp, dig_zeros hb _, by rw [hz]; exact hp, fun j _ => hz j, by simp [vl, vl_zeros]⟩
theorem ShlRel.step {b : Nat} {xs L : List Nat} {q p i x : Nat} (h : ShlRel b xs L q p i) (hi : i < xs.length) (hx : xs.getD i 0 = x) (hxb : x < b) (hp : 0 < p) (hs : L.getD (i + q) 0 + x * p % b < b) (hpb : p ≤ b) :
    ShlRel b xs ((L.set (i + q) (L.getD (i + q) 0 + x * p % b)).set (i + q + 1) (x * p / b)) q p (i + 1) := by
  have hb : 0 < b := by omega
  have hlt : x * p / b < p := by
    rw [Nat.div_lt_iff_lt_mul hb, Nat.mul_comm p b]
    exact Nat.mul_lt_mul_of_pos_right hxb hp
  have hlen := h.len
  have hz := h.zero (i + q + 1) (by omega)
  refine ⟨by simp [hlen], dig_set (dig_set h.dig _ hs) _ (by omega), ?_, fun j hj => ?_, ?_⟩
  · rw [show i + 1 + q = i + q + 1 by omega, getD_set_eq (by simp; omega)]; exact hlt
  · rw [Go.Cal.getD_set_ne (by omega), Go.Cal.getD_set_ne (by omega)]; exact h.zero j (by omega)
  · have h1 := vl_set (b := b) (L.set (i + q) (L.getD (i + q) 0 + x * p % b)) (i + q + 1) (x * p / b) (by simp; omega)
    have h2 := vl_set (b := b) L (i + q) (L.getD (i + q) 0 + x * p % b) (by omega)
    rw [Go.Cal.getD_set_ne (by omega), hz, Nat.mul_zero, Nat.add_zero] at h1
    rw [h1, vl_getD, hx, Nat.add_mul, ← h.val]
    rw [Nat.mul_add] at h2
    have h3 : b ^ (i + q) * (x * p % b) + b ^ (i + q + 1) * (x * p / b) = b ^ i * x * (b ^ q * p) := by
      rw [Nat.pow_succ, Nat.mul_assoc, ← Nat.mul_add, Nat.mod_add_div, Nat.pow_add]
      simp only [Nat.mul_assoc, Nat.mul_left_comm]
    omega
theorem shl_word {o x r : Nat} (hr : r < 64) (ho : o < 2 ^ r) :
    bits .or .u64 (o : Int) (IntKind.u64.wrap ((x : Int) * 2 ^ r)) = ((o + x * 2 ^ r % 18446744073709551616 : Nat) : Int) ∧ (x : Int) / 2 ^ (64 - r) = ((x * 2 ^ r / 18446744073709551616 : Nat) : Int) ∧ o + x * 2 ^ r % 18446744073709551616 < 18446744073709551616 ∧ 2 ^ r ≤ 18446744073709551616 := by
  have hp := Nat.two_pow_pos r
  have e64 : 2 ^ (64 - r) * 2 ^ r = 18446744073709551616 := by rw [← Nat.pow_add, show 64 - r + r = 64 by omega]
  have hple : 2 ^ r ≤ 18446744073709551616 := by
    have := Nat.two_pow_pos (64 - r)
    have := Nat.mul_le_mul_right (2 ^ r) this
    omega
  have hm : x * 2 ^ r % 18446744073709551616 % 2 ^ r = 0 := by
    rw [← e64, Nat.mul_mod_mul_right, Nat.mul_mod_left]
  have hlt := Nat.mod_lt (x * 2 ^ r) (show 0 < 18446744073709551616 by omega)
  have hob : o + x * 2 ^ r % 18446744073709551616 < 18446744073709551616 := by
    have hd : 2 ^ r ∣ x * 2 ^ r % 18446744073709551616 := Nat.dvd_of_mod_eq_zero hm
    obtain ⟨k, hk⟩ := hd
    have h2 : 2 ^ r * k < 2 ^ r * 2 ^ (64 - r) := by rw [← hk, Nat.mul_comm (2 ^ r) (2 ^ (64 - r)), e64]; exact hlt
    have h3 : k + 1 ≤ 2 ^ (64 - r) := Nat.lt_of_mul_lt_mul_left h2
    have h4 := Nat.mul_le_mul_left (2 ^ r) h3
    rw [Nat.mul_add, ← hk, Nat.mul_comm (2 ^ r) (2 ^ (64 - r)), e64] at h4
    omega
  refine ⟨?_, ?_, hob, hple⟩
  · have e1 : (x : Int) * 2 ^ r = ((x * 2 ^ r : Nat) : Int) := by push_cast; rfl
    rw [e1, wrap_u64, show ((x * 2 ^ r : Nat) : Int) % 18446744073709551616 = ((x * 2 ^ r % 18446744073709551616 : Nat) : Int) by omega, u64_or_nat _ _ (by omega) hlt, Nat.or_comm, nat_join r _ _ hm ho, Nat.add_comm]
  · rw [← e64, Nat.mul_div_mul_right _ _ hp]; push_cast; rfl
theorem pow64 {n q r : Nat} (hq : n / 64 = q) (hr : n % 64 = r) : 18446744073709551616 ^ q * 2 ^ r = 2 ^ n := by
  rw [show 18446744073709551616 = 2 ^ 64 from rfl, ← Nat.pow_mul, ← Nat.pow_add]
  congr 1; omega
set_option maxRecDepth 100000 in
set_option maxHeartbeats 1000000 in
theorem shl_min {A1 : Option Addr} {xs : List Nat} (c1 n : Nat) (ni : Int) (hmin : min (max ni 0) 131072 = (n : Int)) (w : World) (h1 : RdU w w.heap.size A1 xs) (hc1 : xs.length ≤ c1) (hn1 : xs.length ≤ 274877906944) (d1 : Dig 18446744073709551616 xs) :
    Calls Tryz.prog 16 #[.slice A1 xs.length c1, .int .i64 ni] w (RetN w (vl 18446744073709551616 xs * 2 ^ n)) := by
  obtain ⟨q, hq⟩ : ∃ q, n / 64 = q := ⟨_, rfl⟩
  obtain ⟨r, hr⟩ : ∃ r, n % 64 = r := ⟨_, rfl⟩
  have hq' : (n : Int) / 64 = (q : Int) := by omega
  have hr' : (n : Int) % 64 = (r : Int) := by omega
  have hn : n ≤ 131072 := by omega
  have hr64 : r < 64 := by omega
  have hqb : q ≤ 2048 := by omega
  replace hq := Lib.hid hq
  replace hr := Lib.hid hr
  go_enter Tryz.func16, Tryz.ntmps16
  go_wp2_with fail
  refine (trim_nat _ _ h1 hc1 (by omega) d1).mono ?_
  rintro e w1 ⟨⟨zs, rfl, r1, t1, e1, v1, l1⟩, rfl⟩
  have hmk := run_makeU (P := Tryz.prog) 23 37 under_nat info_u64 (zs.length + q + 1) (by omega)
  rw [Int.natCast_add, Int.natCast_add, Int.natCast_one] at hmk
  replace e1 := Lib.hid e1
  replace v1 := Lib.hid v1
  clear h1 d1
  go_wp2
  clear hmk
  go_loopw [6, 7, 8, 23] (fun _ _ _ iv wr => ∃ (i : Nat) (L : List Nat), i ≤ zs.length ∧ iv = .int .i64 i ∧ BlkU wr w.heap.size 37 L ∧ Below w.heap.size w wr ∧ ShlRel 18446744073709551616 zs L q (2 ^ r) i) (fun _ _ _ iv _ => zs.length - (intOf iv).toNat)
  case atStart => exact ⟨0, _, by omega, rfl, BlkU.made w 37 _, (Below.refl _ _).alloc (Nat.le_refl _) _, .start (by omega) zs q _ (Nat.two_pow_pos r)⟩
  case round =>
    obtain ⟨i, L, him, rfl, hB, hbw, hR⟩ := hrel
    have hz := hbw.size
    by_cases hi : i < zs.length
    · have hii : (i : Int) < (zs.length : Int) := by omega
      obtain ⟨b, off, rfl, hb, hcx⟩ := (r1.below hbw).at hi
      have hx0 := hcx i hi
      clear hcx
      obtain ⟨x, hxx⟩ : ∃ x, zs.getD i 0 = x := ⟨_, rfl⟩
      have hx1 : x < 18446744073709551616 := hxx ▸ dig_getD (by omega) e1.out i
      rw [hxx] at hx0
      have hlen := hR.len
      have hcell := hB.cell (i + q) (by omega)
      have hfr := hB.frozen (i + q)
      have hcell2 := hB.cell (i + q + 1) (by omega)
      have hfr2 := hB.frozen (i + q + 1)
      have hik : (i : Int) + (q : Int) < (zs.length : Int) + (q : Int) + 1 := by omega
      have hik2 : (i : Int) + (q : Int) + 1 < (zs.length : Int) + (q : Int) + 1 := by omega
      have hik0 : ((i : Int) + (q : Int)).toNat = i + q := by omega
      have hik1 : ((i : Int) + (q : Int) + 1).toNat = i + q + 1 := by omega
      obtain ⟨hor, hsh, hob, hpb⟩ := shl_word (o := L.getD (i + q) 0) hr64 hR.mid
      have hst := hR.step hi hxx hx1 (Nat.two_pow_pos r) hob hpb
      have hset := ((hB.set (i + q) (L.getD (i + q) 0 + x * 2 ^ r % 18446744073709551616)).set (i + q + 1) (x * 2 ^ r / 18446744073709551616)).drew
      obtain ⟨o, hoo⟩ : ∃ o, L.getD (i + q) 0 = o := ⟨_, rfl⟩
      obtain ⟨o2, hoo2⟩ : ∃ o, L.getD (i + q + 1) 0 = o := ⟨_, rfl⟩
      rw [hoo] at hcell hor hst hset
      rw [hoo2] at hcell2
      obtain ⟨v, hv⟩ : ∃ v, o + x * 2 ^ r % 18446744073709551616 = v := ⟨_, rfl⟩
      obtain ⟨u, hu⟩ : ∃ u, x * 2 ^ r / 18446744073709551616 = u := ⟨_, rfl⟩
      rw [hv] at hor hst hset
      rw [hu] at hsh hst hset
      clear hob hpb
      replace hv := Lib.hid hv
      replace hu := Lib.hid hu
      replace hoo := Lib.hid hoo
      replace hoo2 := Lib.hid hoo2
      replace hxx := Lib.hid hxx
      replace hlen := Lib.hid hlen
      go_wp2
      go_region
      go_wp2
      exact ⟨⟨i + 1, _, by omega, by go_num, hset, ((hbw.setCell (Nat.le_refl _) _).setCell (Nat.le_refl _) _).drew, hst⟩, by simp [intOf]; omega⟩
    · have hi' : i = zs.length := by omega
      subst hi'
      have hv : vl 18446744073709551616 L = vl 18446744073709551616 xs * 2 ^ n := by
        rw [hR.val, vl_take_all zs _ (Nat.le_refl _), v1.out, pow64 hq.out hr.out]
      replace hv := Lib.hid hv
      go_wp2_with fail
      refine (trim_made _ hB (Nat.le_refl _) hbw hR.len (Nat.le_refl _) (by omega) hR.dig hv.out).mono ?_
      rintro e w1 ⟨A, c', zs, rfl, hg, hnrm, hb⟩
      go_wp2
      go_ret
      exact ⟨A, c', zs, rfl, hg, hnrm, hb⟩
theorem shl_in {A1 : Option Addr} {xs : List Nat} (c1 n : Nat) (hn : n ≤ 131072) (w : World) (h1 : RdU w w.heap.size A1 xs) (hc1 : xs.length ≤ c1) (hn1 : xs.length ≤ 274877906944) (d1 : Dig 18446744073709551616 xs) :
    Calls Tryz.prog 16 #[.slice A1 xs.length c1, .int .i64 n] w (RetN w (vl 18446744073709551616 xs * 2 ^ n)) :=
  shl_min c1 n n (by omega) w h1 hc1 hn1 d1
/-- Any n. -/
theorem shl_any {A1 : Option Addr} {xs : List Nat} (c1 : Nat) (n : Int) (w : World) (h1 : RdU w w.heap.size A1 xs) (hc1 : xs.length ≤ c1) (hn1 : xs.length ≤ 274877906944) (d1 : Dig 18446744073709551616 xs) :
    Calls Tryz.prog 16 #[.slice A1 xs.length c1, .int .i64 n] w (RetN w (vl 18446744073709551616 xs * 2 ^ (min (max n 0) 131072).toNat)) :=
  shl_min c1 _ n (by omega) w h1 hc1 hn1 d1
end Go.Proofs.YthafemcaekimpaaGreatDoor
