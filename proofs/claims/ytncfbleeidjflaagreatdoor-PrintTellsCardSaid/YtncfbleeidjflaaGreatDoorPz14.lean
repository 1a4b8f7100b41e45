/- The nat layer: shifts. Conditions: lengths below 2^38. -/
/- The nat layer: shifts to the right. Conditions: lengths below 2^38. -/
import Derived.Test.YtncfbleeidjflaaGreatDoorPz13
namespace Go.Proofs.YtncfbleeidjflaaGreatDoor
open Go.RowKit Go.Cal
/-- What stands at the head of a round of a shift: i words are shifted by q words and r bits. -/
structure ShlRel (b : Nat) (xs L : List Nat) (q p i : Nat) : Prop where
  len : L.length = xs.length + q + 1
  dig : Dig b L
  mid : L.getD (i + q) 0 < p
  zero : ∀ j, i + q < j → L.getD j 0 = 0
  val : vl b L = vl b (xs.take i) * (b ^ q * p)
theorem ShlRel.start {b : Nat} (hb : 0 < b) (xs : List Nat) (q p : Nat) (hp : 0 < p) : ShlRel b xs (List.replicate (xs.length + q + 1) 0) q p 0 := by
  have hz : ∀ j, (List.replicate (xs.length + q + 1) 0).getD j 0 = 0 := fun j => by
    simp [List.getD_eq_getElem?_getD, List.getElem?_replicate]; split <;> rfl
  exact ⟨by simp, dig_zeros hb _, by rw [hz]; exact hp, fun j _ => hz j, by simp [vl, vl_zeros]⟩
theorem ShlRel.step {b : Nat} {xs L : List Nat} {q p i x : Nat} (h : ShlRel b xs L q p i) (hi : i < xs.length) (hx : xs.getD i 0 = x) (hxb : x < b) (hp : 0 < p) (hs : L.getD (i + q) 0 + x * p % b < b) (hpb : p ≤ b) :
    ShlRel b xs ((L.set (i + q) (L.getD (i + q) 0 + x * p % b)).set (i + q + 1) (x * p / b)) q p (i + 1) := by
  have hb : 0 < b := by omega
  have hlt : x * p / b < p := by
    rw [Nat.div_lt_iff_lt_mul hb, Nat.mul_comm p b]
    exact Nat.mul_lt_mul_of_pos_right hxb hp
  have hlen := h.len
  have hz := h.zero (i + q + 1) (by omega)
  refine ⟨by simp [hlen], dig_set (dig_set h.dig _ hs) _ (by omega), ?_, fun j hj => ?_, ?_⟩
  · rw [show i + 1 + q = i + q + 1 by omega, getD_set_eq (by simp; omega)]; exact hlt
  · rw [Go.Cal.getD_set_ne (by omega), Go.Cal.getD_set_ne (by omega)]; exact h.zero j (by omega)
  · have h1 := vl_set (b := b) (L.set (i + q) (L.getD (i + q) 0 + x * p % b)) (i + q + 1) (x * p / b) (by simp; omega)
    have h2 := vl_set (b := b) L (i + q) (L.getD (i + q) 0 + x * p % b) (by omega)
    rw [Go.Cal.getD_set_ne (by omega), hz, Nat.mul_zero, Nat.add_zero] at h1
    rw [h1, vl_getD, hx, Nat.add_mul, ← h.val]
    rw [Nat.mul_add] at h2
    have h3 : b ^ (i + q) * (x * p % b) + b ^ (i + q + 1) * (x * p / b) = b ^ i * x * (b ^ q * p) := by
      rw [Nat.pow_succ, Nat.mul_assoc, ← Nat.mul_add, Nat.mod_add_div, Nat.pow_add]
      simp only [Nat.mul_assoc, Nat.mul_left_comm]
    omega
theorem shl_word {o x r : Nat} (hr : r < 64) (ho : o < 2 ^ r) :
    bits .or .u64 (o : Int) (IntKind.u64.wrap ((x : Int) * 2 ^ r)) = ((o + x * 2 ^ r % 18446744073709551616 : Nat) : Int) ∧ (x : Int) / 2 ^ (64 - r) = ((x * 2 ^ r / 18446744073709551616 : Nat) : Int) ∧ o + x * 2 ^ r % 18446744073709551616 < 18446744073709551616 ∧ 2 ^ r ≤ 18446744073709551616 := by
  have hp := Nat.two_pow_pos r
  have e64 : 2 ^ (64 - r) * 2 ^ r = 18446744073709551616 := by rw [← Nat.pow_add, show 64 - r + r = 64 by omega]
  have hple : 2 ^ r ≤ 18446744073709551616 := by
    have := Nat.two_pow_pos (64 - r)
    have := Nat.mul_le_mul_right (2 ^ r) this
    omega
  have hm : x * 2 ^ r % 18446744073709551616 % 2 ^ r = 0 := by
    rw [← e64, Nat.mul_mod_mul_right, Nat.mul_mod_left]
  have hlt := Nat.mod_lt (x * 2 ^ r) (show 0 < 18446744073709551616 by omega)
  have hob : o + x * 2 ^ r % 18446744073709551616 < 18446744073709551616 := by
    have hd : 2 ^ r ∣ x * 2 ^ r % 18446744073709551616 := Nat.dvd_of_mod_eq_zero hm
    obtain ⟨k, hk⟩ := hd
    have h2 : 2 ^ r * k < 2 ^ r * 2 ^ (64 - r) := by rw [← hk, Nat.mul_comm (2 ^ r) (2 ^ (64 - r)), e64]; exact hlt
    have h3 : k + 1 ≤ 2 ^ (64 - r) := Nat.lt_of_mul_lt_mul_left h2
    have h4 := Nat.mul_le_mul_left (2 ^ r) h3
    rw [Nat.mul_add, ← hk, Nat.mul_comm (2 ^ r) (2 ^ (64 - r)), e64] at h4
    omega
  refine ⟨?_, ?_, hob, hple⟩
  · have e1 : (x : Int) * 2 ^ r = ((x * 2 ^ r : Nat) : Int) := by push_cast; rfl
    rw [e1, wrap_u64, show ((x * 2 ^ r : Nat) : Int) % 18446744073709551616 = ((x * 2 ^ r % 18446744073709551616 : Nat) : Int) by omega, u64_or_nat _ _ (by omega) hlt, Nat.or_comm, nat_join r _ _ hm ho, Nat.add_comm]
  · rw [← e64, Nat.mul_div_mul_right _ _ hp]; push_cast; rfl
theorem pow64 {n q r : Nat} (hq : n / 64 = q) (hr : n % 64 = r) : 18446744073709551616 ^ q * 2 ^ r = 2 ^ n := by
  rw [show 18446744073709551616 = 2 ^ 64 from rfl, ← Nat.pow_mul, ← Nat.pow_add]
  congr 1; omega
set_option maxRecDepth 100000 in
set_option maxHeartbeats 1000000 in
theorem shl_min {A1 : Option Addr} {xs : List Nat} (c1 n : Nat) (ni : Int) (hmin : min (max ni 0) 131072 = (n : Int)) (w : World) (h1 : RdU w w.heap.size A1 xs) (hc1 : xs.length ≤ c1) (hn1 : xs.length ≤ 274877906944) (d1 : Dig 18446744073709551616 xs) :
    Calls Tryz.prog 46 #[.slice A1 xs.length c1, .int .i64 ni] w (RetN w (vl 18446744073709551616 xs * 2 ^ n)) := by
  obtain ⟨q, hq⟩ : ∃ q, n / 64 = q := ⟨_, rfl⟩
  obtain ⟨r, hr⟩ : ∃ r, n % 64 = r := ⟨_, rfl⟩
  have hq' : (n : Int) / 64 = (q : Int) := by omega
  have hr' : (n : Int) % 64 = (r : Int) := by omega
  have hn : n ≤ 131072 := by omega
  have hr64 : r < 64 := by omega
  have hqb : q ≤ 2048 := by omega
  replace hq := Lib.hid hq
  replace hr := Lib.hid hr
  go_enter Tryz.func46, Tryz.ntmps46
  go_wp2_with fail
  refine (trim_nat _ _ h1 hc1 (by omega) d1).mono ?_
  rintro e w1 ⟨⟨zs, rfl, r1, t1, e1, v1, l1⟩, rfl⟩
  have hmk := run_makeU (P := Tryz.prog) 33 22 under_nat info_u64 (zs.length + q + 1) (by omega)
  rw [Int.natCast_add, Int.natCast_add, Int.natCast_one] at hmk
  replace e1 := Lib.hid e1
  replace v1 := Lib.hid v1
  clear h1 d1
  go_wp2
  clear hmk
  go_loopw [6, 7, 8, 23] (fun _ _ _ iv wr => ∃ (i : Nat) (L : List Nat), i ≤ zs.length ∧ iv = .int .i64 i ∧ BlkU wr w.heap.size 22 L ∧ Below w.heap.size w wr ∧ ShlRel 18446744073709551616 zs L q (2 ^ r) i) (fun _ _ _ iv _ => zs.length - (intOf iv).toNat)
  case atStart => exact ⟨0, _, by omega, rfl, BlkU.made w 22 _, (Below.refl _ _).alloc (Nat.le_refl _) _, .start (by omega) zs q _ (Nat.two_pow_pos r)⟩
  case round =>
    obtain ⟨i, L, him, rfl, hB, hbw, hR⟩ := hrel
    have hz := hbw.size
    by_cases hi : i < zs.length
    · have hii : (i : Int) < (zs.length : Int) := by omega
      obtain ⟨b, off, rfl, hb, hcx⟩ := (r1.below hbw).at hi
      have hx0 := hcx i hi
      clear hcx
      obtain ⟨x, hxx⟩ : ∃ x, zs.getD i 0 = x := ⟨_, rfl⟩
      have hx1 : x < 18446744073709551616 := hxx ▸ dig_getD (by omega) e1.out i
      rw [hxx] at hx0
      have hlen := hR.len
      have hcell := hB.cell (i + q) (by omega)
      have hfr := hB.frozen (i + q)
      have hcell2 := hB.cell (i + q + 1) (by omega)
      have hfr2 := hB.frozen (i + q + 1)
      have hik : (i : Int) + (q : Int) < (zs.length : Int) + (q : Int) + 1 := by omega
      have hik2 : (i : Int) + (q : Int) + 1 < (zs.length : Int) + (q : Int) + 1 := by omega
      have hik0 : ((i : Int) + (q : Int)).toNat = i + q := by omega
      have hik1 : ((i : Int) + (q : Int) + 1).toNat = i + q + 1 := by omega
      obtain ⟨hor, hsh, hob, hpb⟩ := shl_word (o := L.getD (i + q) 0) hr64 hR.mid
      have hst := hR.step hi hxx hx1 (Nat.two_pow_pos r) hob hpb
      have hset := ((hB.set (i + q) (L.getD (i + q) 0 + x * 2 ^ r % 18446744073709551616)).set (i + q + 1) (x * 2 ^ r / 18446744073709551616)).drew
      obtain ⟨o, hoo⟩ : ∃ o, L.getD (i + q) 0 = o := ⟨_, rfl⟩
      obtain ⟨o2, hoo2⟩ : ∃ o, L.getD (i + q + 1) 0 = o := ⟨_, rfl⟩
      rw [hoo] at hcell hor hst hset
      rw [hoo2] at hcell2
      obtain ⟨v, hv⟩ : ∃ v, o + x * 2 ^ r % 18446744073709551616 = v := ⟨_, rfl⟩
      obtain ⟨u, hu⟩ : ∃ u, x * 2 ^ r / 18446744073709551616 = u := ⟨_, rfl⟩
      rw [hv] at hor hst hset
      rw [hu] at hsh hst hset
      clear hob hpb
      replace hv := Lib.hid hv
      replace hu := Lib.hid hu
      replace hoo := Lib.hid hoo
      replace hoo2 := Lib.hid hoo2
      replace hxx := Lib.hid hxx
      replace hlen := Lib.hid hlen
      go_wp2
      go_region
      go_wp2
      exact ⟨⟨i + 1, _, by omega, by go_num, hset, ((hbw.setCell (Nat.le_refl _) _).setCell (Nat.le_refl _) _).drew, hst⟩, by simp [intOf]; omega⟩
    · have hi' : i = zs.length := by omega
      subst hi'
      have hv : vl 18446744073709551616 L = vl 18446744073709551616 xs * 2 ^ n := by
        rw [hR.val, vl_take_all zs _ (Nat.le_refl _), v1.out, pow64 hq.out hr.out]
      replace hv := Lib.hid hv
      go_wp2_with fail
      refine (trim_made _ hB (Nat.le_refl _) hbw hR.len (Nat.le_refl _) (by omega) hR.dig hv.out).mono ?_
      rintro e w1 ⟨A, c', zs, rfl, hg, hnrm, hb⟩
      go_wp2
      go_ret
      exact ⟨A, c', zs, rfl, hg, hnrm, hb⟩
theorem shl_in {A1 : Option Addr} {xs : List Nat} (c1 n : Nat) (hn : n ≤ 131072) (w : World) (h1 : RdU w w.heap.size A1 xs) (hc1 : xs.length ≤ c1) (hn1 : xs.length ≤ 274877906944) (d1 : Dig 18446744073709551616 xs) :
    Calls Tryz.prog 46 #[.slice A1 xs.length c1, .int .i64 n] w (RetN w (vl 18446744073709551616 xs * 2 ^ n)) :=
  shl_min c1 n n (by omega) w h1 hc1 hn1 d1
/-- Any n. -/
theorem shl_any {A1 : Option Addr} {xs : List Nat} (c1 : Nat) (n : Int) (w : World) (h1 : RdU w w.heap.size A1 xs) (hc1 : xs.length ≤ c1) (hn1 : xs.length ≤ 274877906944) (d1 : Dig 18446744073709551616 xs) :
    Calls Tryz.prog 46 #[.slice A1 xs.length c1, .int .i64 n] w (RetN w (vl 18446744073709551616 xs * 2 ^ (min (max n 0) 131072).toNat)) :=
  shl_min c1 _ n (by omega) w h1 hc1 hn1 d1
end Go.Proofs.YtncfbleeidjflaaGreatDoor
namespace Go.Proofs.YtncfbleeidjflaaGreatDoor
open Go.RowKit Go.Cal
structure ShrRel (b : Nat) (ys L : List Nat) (p i : Nat) : Prop where
  len : L.length = ys.length
  dig : Dig b L
  val : vl b (L.take i) * p + ys.getD 0 0 % p = vl b (ys.take i) + b ^ i * (ys.getD i 0 % p)
theorem ShrRel.start {b : Nat} (hb : 0 < b) (ys : List Nat) (p : Nat) : ShrRel b ys (List.replicate ys.length 0) p 0 :=
  ⟨by simp, dig_zeros hb _, by simp [vl]⟩
theorem ShrRel.step {b : Nat} {ys L : List Nat} {p i o : Nat} (h : ShrRel b ys L p i) (hi : i < ys.length) (ho : o < b) (he : o * p + ys.getD i 0 % p = ys.getD i 0 + b * (ys.getD (i + 1) 0 % p)) : ShrRel b ys (L.set i o) p (i + 1) := by
  refine ⟨by rw [List.length_set, h.len], dig_set h.dig _ ho, ?_⟩
  rw [vl_take_set (by rw [h.len]; exact hi), vl_getD, Nat.add_mul, Nat.pow_succ, Nat.mul_assoc, Nat.mul_assoc]
  have h1 := h.val
  have h2 : b ^ i * (o * p + ys.getD i 0 % p) = b ^ i * (ys.getD i 0 + b * (ys.getD (i + 1) 0 % p)) := by rw [he]
  rw [Nat.mul_add, Nat.mul_add] at h2
  omega
theorem ShrRel.done {b : Nat} {ys L : List Nat} {p : Nat} (h : ShrRel b ys L p ys.length) (hp : 0 < p) : vl b L = vl b ys / p := by
  have h1 := h.val
  rw [vl_take_all L _ (by rw [h.len]; exact Nat.le_refl _), vl_take_all ys _ (Nat.le_refl _)] at h1
  have h2 : ys.getD ys.length 0 = 0 := by simp [List.getD_eq_getElem?_getD]
  rw [h2, Nat.zero_mod, Nat.mul_zero, Nat.add_zero] at h1
  rw [← h1, Nat.mul_comm, Nat.mul_add_div hp, Nat.div_eq_of_lt (Nat.mod_lt _ hp), Nat.add_zero]
theorem shr_word {x y r : Nat} (hr : r < 64) (hx : x < 18446744073709551616) :
    ∃ o : Nat, bits .or .u64 ((x : Int) / 2 ^ r) (IntKind.u64.wrap ((y : Int) * 2 ^ (64 - r))) = (o : Int) ∧ o < 18446744073709551616 ∧ o * 2 ^ r + x % 2 ^ r = x + 18446744073709551616 * (y % 2 ^ r) := by
  have hp := Nat.two_pow_pos r
  have hp2 := Nat.two_pow_pos (64 - r)
  have e64 : 2 ^ (64 - r) * 2 ^ r = 18446744073709551616 := by rw [← Nat.pow_add, show 64 - r + r = 64 by omega]
  have h1 : x / 2 ^ r < 2 ^ (64 - r) := by rw [Nat.div_lt_iff_lt_mul hp, e64]; exact hx
  have h2 : y * 2 ^ (64 - r) % 18446744073709551616 = y % 2 ^ r * 2 ^ (64 - r) := by rw [← e64, Nat.mul_comm (2 ^ (64 - r)) (2 ^ r), Nat.mul_mod_mul_right]
  have h3 := Nat.mod_lt y hp
  have h4 : (y % 2 ^ r + 1) * 2 ^ (64 - r) ≤ 2 ^ r * 2 ^ (64 - r) := Nat.mul_le_mul_right _ h3
  rw [Nat.mul_comm (2 ^ r), e64, Nat.add_mul] at h4
  refine ⟨y % 2 ^ r * 2 ^ (64 - r) + x / 2 ^ r, ?_, by omega, ?_⟩
  · have e1 : (x : Int) / 2 ^ r = ((x / 2 ^ r : Nat) : Int) := by push_cast; rfl
    have e2 : (y : Int) * 2 ^ (64 - r) = ((y * 2 ^ (64 - r) : Nat) : Int) := by push_cast; rfl
    rw [e1, e2, wrap_u64, show ((y * 2 ^ (64 - r) : Nat) : Int) % 18446744073709551616 = ((y * 2 ^ (64 - r) % 18446744073709551616 : Nat) : Int) by omega, h2, u64_or_nat _ _ (by omega) (by omega), Nat.or_comm, nat_join (64 - r) _ _ (Nat.mul_mod_left _ _) h1]
  · rw [Nat.add_mul, Nat.mul_assoc, e64, Nat.mul_comm (y % 2 ^ r), Nat.add_assoc, Nat.div_add_mod', Nat.add_comm]
theorem getD_drop (xs : List Nat) (q i : Nat) : (xs.drop q).getD i 0 = xs.getD (i + q) 0 := by
  simp [List.getD_eq_getElem?_getD, List.getElem?_drop, Nat.add_comm]
theorem shr_value {xs : List Nat} {n q r : Nat} (d : Dig 18446744073709551616 xs) (hq : n / 64 = q) (hr : n % 64 = r) : vl 18446744073709551616 (xs.drop q) / 2 ^ r = vl 18446744073709551616 xs / 2 ^ n := by
  rw [← pow64 hq hr, ← Nat.div_div_eq_div_mul]
  congr 1
  by_cases h : q ≤ xs.length
  · have h1 := vl_split (b := 18446744073709551616) xs q h
    have h2 := vl_lt (dig_take d q)
    rw [List.length_take, Nat.min_eq_left h] at h2
    rw [h1, Nat.add_mul_div_left _ _ (Nat.pow_pos (by omega)), Nat.div_eq_of_lt h2, Nat.zero_add]
  · have h1 := vl_lt d
    have h2 : 18446744073709551616 ^ xs.length ≤ 18446744073709551616 ^ q := Nat.pow_le_pow_right (by omega) (by omega)
    rw [List.drop_of_length_le (by omega), Nat.div_eq_of_lt (by omega)]
    rfl
set_option maxRecDepth 100000 in
set_option maxHeartbeats 1000000 in
theorem shr_min {A1 : Option Addr} {xs : List Nat} (c1 n : Nat) (ni : Int) (hmin : min (max ni 0) 131072 = (n : Int)) (w : World) (h1 : RdU w w.heap.size A1 xs) (hn1 : xs.length ≤ 274877906944) (d1 : Dig 18446744073709551616 xs) :
    Calls Tryz.prog 186 #[.slice A1 xs.length c1, .int .i64 ni] w (RetN w (vl 18446744073709551616 xs / 2 ^ n)) := by
  obtain ⟨q, hq⟩ : ∃ q, n / 64 = q := ⟨_, rfl⟩
  obtain ⟨r, hr⟩ : ∃ r, n % 64 = r := ⟨_, rfl⟩
  have hq' : (n : Int) / 64 = (q : Int) := by omega
  have hr' : (n : Int) % 64 = (r : Int) := by omega
  have hn : n ≤ 131072 := by omega
  have hr64 : r < 64 := by omega
  have hqb : q ≤ 2048 := by omega
  obtain ⟨M, hM⟩ : ∃ M, (xs.drop q).length = M := ⟨_, rfl⟩
  have hM' : max 0 ((xs.length : Int) - (q : Int)) = (M : Int) := by simp at hM; omega
  have hM2 : M ≤ xs.length := by simp at hM; omega
  have hM3 : ∀ i, i < M → i + q < xs.length := by simp at hM; omega
  have hv0 := shr_value d1 hq hr
  have hmk := run_makeU (P := Tryz.prog) 33 22 under_nat info_u64 M (by omega)
  replace hM3 := Lib.hid hM3
  replace hv0 := Lib.hid hv0
  replace hq := Lib.hid hq
  replace hr := Lib.hid hr
  replace hM := Lib.hid hM
  replace d1 := Lib.hid d1
  go_enter Tryz.func186, Tryz.ntmps186
  go_wp2
  clear hmk
  go_loopw [6, 7, 20] (fun _ _ iv wr => ∃ (i : Nat) (L : List Nat), i ≤ M ∧ iv = .int .i64 i ∧ BlkU wr w.heap.size 22 L ∧ Below w.heap.size w wr ∧ ShrRel 18446744073709551616 (xs.drop q) L (2 ^ r) i) (fun _ _ iv _ => M - (intOf iv).toNat)
  case atStart => exact ⟨0, _, by omega, rfl, BlkU.made w 22 _, (Below.refl _ _).alloc (Nat.le_refl _) _, hM.out ▸ .start (by omega) _ _⟩
  case round =>
    obtain ⟨i, L, him, rfl, hB, hbw, hR⟩ := hrel
    have hz := hbw.size
    by_cases hi : i < M
    · have hii : (i : Int) < (M : Int) := by omega
      have hkl := hM3.out i hi
      have hwr : IntKind.i64.wrap ((i : Int) + (q : Int) + 1) = (i : Int) + (q : Int) + 1 := by rw [IntKind.wrap_i64]; omega
      have hkl' : (i : Int) + (q : Int) < (xs.length : Int) := by omega
      have hik0 : ((i : Int) + (q : Int)).toNat = i + q := by omega
      obtain ⟨b, off, rfl, hb, hcx⟩ := (h1.below hbw).at hkl
      have hx0 := hcx (i + q) hkl
      clear hcx
      obtain ⟨x, hxx⟩ : ∃ x, xs.getD (i + q) 0 = x := ⟨_, rfl⟩
      obtain ⟨y, hyy⟩ : ∃ y, xs.getD (i + q + 1) 0 = y := ⟨_, rfl⟩
      have hx1 : x < 18446744073709551616 := hxx ▸ dig_getD (by omega) d1.out _
      have ca := at_any c1 (i + q + 1) wr.drew ((h1.below hbw).drewN 1)
      rw [hyy] at ca
      rw [hxx] at hx0
      rw [show ((i + q + 1 : Nat) : Int) = (i : Int) + (q : Int) + 1 by omega] at ca
      obtain ⟨o, ho1, ho2, ho3⟩ := shr_word (x := x) (y := y) hr64 hx1
      have hL := hR.len
      have hMM := hM.out
      have hst := hR.step (by omega) ho2 (by rw [getD_drop, getD_drop, hxx, show i + 1 + q = i + q + 1 by omega, hyy]; exact ho3)
      have hcell := hB.cell i (by omega)
      have hfr := hB.frozen i
      have hset := (hB.set i o).drew
      generalize L.getD i 0 = u at *
      clear ho3 hL hMM
      replace hxx := Lib.hid hxx
      replace hyy := Lib.hid hyy
      replace ca := Lib.hid ca
      go_wp2
      have htm : (n : Int).tmod 64 = (r : Int) := by rw [Int.tmod_eq_emod_of_nonneg (by omega)]; exact hr'
      have hw1 : IntKind.i64.wrap (64 - (r : Int)) = 64 - (r : Int) := by rw [IntKind.wrap_i64]; omega
      have hge1 : 0 ≤ 64 - (r : Int) := by omega
      have hto : (64 - (r : Int)).toNat = 64 - r := by omega
      go_region_with (go_at_call 106; refine ca.out.mono ?_; rintro e w1 ⟨rfl, rfl⟩)
      all_goals go_wp2
      all_goals exact ⟨⟨i + 1, _, by omega, by go_num, hset, (hbw.setCell (Nat.le_refl _) _).drew, hst⟩, by simp [intOf]; omega⟩
    · have hi' : i = M := by omega
      subst hi'
      have hv := hR
      rw [← hM.out] at hv
      have hv2 := hv.done (Nat.two_pow_pos r)
      rw [hv0.out] at hv2
      replace hv2 := Lib.hid hv2
      have hl : L.length = i := by rw [hR.len, hM.out]
      replace hl := Lib.hid hl
      clear hv
      go_wp2_with fail
      refine (trim_made _ hB (Nat.le_refl _) hbw hl.out (Nat.le_refl _) (by omega) hR.dig hv2.out).mono ?_
      rintro e w1 ⟨A, c', zs, rfl, hg, hnrm, hb⟩
      go_wp2
      go_ret
      exact ⟨A, c', zs, rfl, hg, hnrm, hb⟩
theorem shr_in {A1 : Option Addr} {xs : List Nat} (c1 n : Nat) (hn : n ≤ 131072) (w : World) (h1 : RdU w w.heap.size A1 xs) (hn1 : xs.length ≤ 274877906944) (d1 : Dig 18446744073709551616 xs) :
    Calls Tryz.prog 186 #[.slice A1 xs.length c1, .int .i64 n] w (RetN w (vl 18446744073709551616 xs / 2 ^ n)) :=
  shr_min c1 n n (by omega) w h1 hn1 d1
end Go.Proofs.YtncfbleeidjflaaGreatDoor
