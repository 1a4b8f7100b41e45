/- The nat layer: shifts to the right. Conditions: lengths below 2^38. -/
/- The nat layer: one digit of a quotient. Conditions: lengths below 2^38; what is divided is less than a word times the divisor. -/
import Derived.Test.YtdlkfnkmdlcekaaGreatDoorFo10
import Derived.Test.YtdlkfnkmdlcekaaGreatDoorFo00
namespace Go.Proofs.YtdlkfnkmdlcekaaGreatDoor
open Go.RowKit Go.Cal
structure ShrRel (b : Nat) (ys L : List Nat) (p i : Nat) : Prop where
  len : L.length = ys.length
  dig : Dig b L
  val : vl b (L.take i) * p + ys.getD 0 0 % p = vl b (ys.take i) + b ^ i * (ys.getD i 0 % p)
theorem ShrRel.start {b : Nat} (hb : 0 < b) (ys : List Nat) (p : Nat) : ShrRel b ys (List.replicate ys.length 0) p 0 :=
  ⟨by simp, dig_zeros hb _, by simp [vl]⟩
theorem ShrRel.step {b : Nat} {ys L : List Nat} {p i o : Nat} (h : ShrRel b ys L p i) (hi : i < ys.length) (ho : o < b) (he : o * p + ys.getD i 0 % p = ys.getD i 0 + b * (ys.getD (i + 1) 0 % p)) : ShrRel b ys (L.set i o) p (i + 1) := by
  refine ⟨by rw [List.length_set, h.len], dig_set h.dig _ ho, ?_⟩
  rw [vl_take_set (by rw [h.len]; exact hi), vl_getD, Nat.add_mul, Nat.pow_succ, Nat.mul_assoc, Nat.mul_assoc]
  have h1 := h.val
  have h2 : b ^ i * (o * p + ys.getD i 0 % p) = b ^ i * (ys.getD i 0 + b * (ys.getD (i + 1) 0 % p)) := by rw [he]
  rw [Nat.mul_add, Nat.mul_add] at h2
  omega
theorem ShrRel.done {b : Nat} {ys L : List Nat} {p : Nat} (h : ShrRel b ys L p ys.length) (hp : 0 < p) : vl b L = vl b ys / p := by
  have h1 := h.val
  rw [vl_take_all L _ (by rw [h.len]; exact Nat.le_refl _), vl_take_all ys _ (Nat.le_refl _)] at h1
  have h2 : ys.getD ys.length 0 = 0 := by simp [List.getD_eq_getElem?_getD]
  rw [h2, Nat.zero_mod, Nat.mul_zero, Nat.add_zero] at h1
  rw [← h1, Nat.mul_comm, Nat.mul_add_div hp, Nat.div_eq_of_lt (Nat.mod_lt _ hp), Nat.add_zero]
theorem shr_word {x y r : Nat} (hr : r < 64) (hx : x < 18446744073709551616) :
    ∃ o : Nat, bits .or .u64 ((x : Int) / 2 ^ r) (IntKind.u64.wrap ((y : Int) * 2 ^ (64 - r))) = (o : Int) ∧ o < 18446744073709551616 ∧ o * 2 ^ r + x % 2 ^ r = x + 18446744073709551616 * (y % 2 ^ r) := by
  have hp := Nat.two_pow_pos r
  have hp2 := Nat.two_pow_pos (64 - r)
  have e64 : 2 ^ (64 - r) * 2 ^ r = 18446744073709551616 := by rw [← Nat.pow_add, show 64 - r + r = 64 by omega]
  have h1 : x / 2 ^ r < 2 ^ (64 - r) := by rw [Nat.div_lt_iff_lt_mul hp, e64]; exact hx
  have h2 : y * 2 ^ (64 - r) % 18446744073709551616 = y % 2 ^ r * 2 ^ (64 - r) := by rw [← e64, Nat.mul_comm (2 ^ (64 - r)) (2 ^ r), Nat.mul_mod_mul_right]
  have h3 := Nat.mod_lt y hp
  have h4 : (y % 2 ^ r + 1) * 2 ^ (64 - r) ≤ 2 ^ r * 2 ^ (64 - r) := Nat.mul_le_mul_right _ h3
  rw [Nat.mul_comm (2 ^ r), e64, Nat.add_mul] at h4
  refine ⟨y % 2 ^ r * 2 ^ (64 - r) + x / 2 ^ r, ?_, by omega, ?_⟩
  · have e1 : (x : Int) / 2 ^ r = ((x / 2 ^ r : Nat) : Int) := by push_cast; rfl
    have e2 : (y : Int) * 2 ^ (64 - r) = ((y * 2 ^ (64 - r) : Nat) : Int) := by push_cast; rfl
    rw [e1, e2, wrap_u64, show ((y * 2 ^ (64 - r) : Nat) : Int) % 18446744073709551616 = ((y * 2 ^ (64 - r) % 18446744073709551616 : Nat) : Int) by omega, h2, u64_or_nat _ _ (by omega) (by omega), Nat.or_comm, nat_join (64 - r) _ _ (Nat.mul_mod_left _ _) h1]
  · rw [Nat.add_mul, Nat.mul_assoc, e64, Nat.mul_comm (y % 2 ^ r), Nat.add_assoc, Nat.div_add_mod', Nat.add_comm]
theorem getD_drop (xs : List Nat) (q i : Nat) : (xs.drop q).getD i 0 = xs.getD (i + q) 0 := by
  simp [List.getD_eq_getElem?_getD, List.getElem?_drop, Nat.add_comm]
theorem shr_value {xs : List Nat} {n q r : Nat} (d : Dig 18446744073709551616 xs) (hq : n / 64 = q) (hr : n % 64 = r) : vl 18446744073709551616 (xs.drop q) / 2 ^ r = vl 18446744073709551616 xs / 2 ^ n := by
  rw [← pow64 hq hr, ← Nat.div_div_eq_div_mul]
  congr 1
  by_cases h : q ≤ xs.length
  · have h1 := vl_split (b := 18446744073709551616) xs q h
    have h2 := vl_lt (dig_take d q)
    rw [List.length_take, Nat.min_eq_left h] at h2
    rw [h1, Nat.add_mul_div_left _ _ (Nat.pow_pos (by omega)), Nat.div_eq_of_lt h2, Nat.zero_add]
  · have h1 := vl_lt d
    have h2 : 18446744073709551616 ^ xs.length ≤ 18446744073709551616 ^ q := Nat.pow_le_pow_right (by omega) (by omega)
    rw [List.drop_of_length_le (by omega), Nat.div_eq_of_lt (by omega)]
    rfl
set_option maxRecDepth 100000 in
set_option maxHeartbeats 1000000 in
theorem shr_min {A1 : Option Addr} {xs : List Nat} (c1 n : Nat) (ni : Int) (hmin : min (max ni 0) 131072 = (n : Int)) (w : World) (h1 : RdU w w.heap.size A1 xs) (hn1 : xs.length ≤ 274877906944) (d1 : Dig 18446744073709551616 xs) :
    Calls Tryz.prog 145 #[.slice A1 xs.length c1, .int .i64 ni] w (RetN w (vl 18446744073709551616 xs / 2 ^ n)) := by
  obtain ⟨q, hq⟩ : ∃ q, n / 64 = q := ⟨_, rfl⟩
  obtain ⟨r, hr⟩ : ∃ r, n % 64 = r := ⟨_, rfl⟩
  have hq' : (n : Int) / 64 = (q : Int) := by omega
  have hr' : (n : Int) % 64 = (r : Int) := by omega
  have hn : n ≤ 131072 := by omega
  have hr64 : r < 64 := by omega
  have hqb : q ≤ 2048 := by omega
  obtain ⟨M, hM⟩ : ∃ M, (xs.drop q).length = M := ⟨_, rfl⟩
  have hM' : max 0 ((xs.length : Int) - (q : Int)) = (M : Int) := by simp at hM; omega
  have hM2 : M ≤ xs.length := by simp at hM; omega
  have hM3 : ∀ i, i < M → i + q < xs.length := by simp at hM; omega
  have hv0 := shr_value d1 hq hr
  have hmk := run_makeU (P := Tryz.prog) 53 22 under_nat info_u64 M (by omega)
  replace hM3 := Lib.hid hM3
  replace hv0 := Lib.hid hv0
  replace hq := Lib.hid hq
  replace hr := Lib.hid hr
  replace hM := Lib.hid hM
  replace d1 := Lib.hid d1
  go_enter Tryz.func145, Tryz.ntmps145
  go_wp2
  clear hmk
  go_loopw [6, 7, 20] (fun _ _ iv wr => ∃ (i : Nat) (L : List Nat), i ≤ M ∧ iv = .int .i64 i ∧ BlkU wr w.heap.size 22 L ∧ Below w.heap.size w wr ∧ ShrRel 18446744073709551616 (xs.drop q) L (2 ^ r) i) (fun _ _ iv _ => M - (intOf iv).toNat)
  case atStart => exact ⟨0, _, by omega, rfl, BlkU.made w 22 _, (Below.refl _ _).alloc (Nat.le_refl _) _, hM.out ▸ .start (by omega) _ _⟩
  case round =>
    obtain ⟨i, L, him, rfl, hB, hbw, hR⟩ := hrel
    have hz := hbw.size
    by_cases hi : i < M
    · have hii : (i : Int) < (M : Int) := by omega
      have hkl := hM3.out i hi
      have hwr : IntKind.i64.wrap ((i : Int) + (q : Int) + 1) = (i : Int) + (q : Int) + 1 := by rw [IntKind.wrap_i64]; omega
      have hkl' : (i : Int) + (q : Int) < (xs.length : Int) := by omega
      have hik0 : ((i : Int) + (q : Int)).toNat = i + q := by omega
      obtain ⟨b, off, rfl, hb, hcx⟩ := (h1.below hbw).at hkl
      have hx0 := hcx (i + q) hkl
      clear hcx
      obtain ⟨x, hxx⟩ : ∃ x, xs.getD (i + q) 0 = x := ⟨_, rfl⟩
      obtain ⟨y, hyy⟩ : ∃ y, xs.getD (i + q + 1) 0 = y := ⟨_, rfl⟩
      have hx1 : x < 18446744073709551616 := hxx ▸ dig_getD (by omega) d1.out _
      have ca := at_any c1 (i + q + 1) wr.drew ((h1.below hbw).drewN 1)
      rw [hyy] at ca
      rw [hxx] at hx0
      rw [show ((i + q + 1 : Nat) : Int) = (i : Int) + (q : Int) + 1 by omega] at ca
      obtain ⟨o, ho1, ho2, ho3⟩ := shr_word (x := x) (y := y) hr64 hx1
      have hL := hR.len
      have hMM := hM.out
      have hst := hR.step (by omega) ho2 (by rw [getD_drop, getD_drop, hxx, show i + 1 + q = i + q + 1 by omega, hyy]; exact ho3)
      have hcell := hB.cell i (by omega)
      have hfr := hB.frozen i
      have hset := (hB.set i o).drew
      generalize L.getD i 0 = u at *
      clear ho3 hL hMM
      replace hxx := Lib.hid hxx
      replace hyy := Lib.hid hyy
      replace ca := Lib.hid ca
      go_wp2
      have htm : (n : Int).tmod 64 = (r : Int) := by rw [Int.tmod_eq_emod_of_nonneg (by omega)]; exact hr'
      have hw1 : IntKind.i64.wrap (64 - (r : Int)) = 64 - (r : Int) := by rw [IntKind.wrap_i64]; omega
      have hge1 : 0 ≤ 64 - (r : Int) := by omega
      have hto : (64 - (r : Int)).toNat = 64 - r := by omega
      go_region_with (go_at_call 51; refine ca.out.mono ?_; rintro e w1 ⟨rfl, rfl⟩)
      all_goals go_wp2
      all_goals exact ⟨⟨i + 1, _, by omega, by go_num, hset, (hbw.setCell (Nat.le_refl _) _).drew, hst⟩, by simp [intOf]; omega⟩
    · have hi' : i = M := by omega
      subst hi'
      have hv := hR
      rw [← hM.out] at hv
      have hv2 := hv.done (Nat.two_pow_pos r)
      rw [hv0.out] at hv2
      replace hv2 := Lib.hid hv2
      have hl : L.length = i := by rw [hR.len, hM.out]
      replace hl := Lib.hid hl
      clear hv
      go_wp2_with fail
      refine (trim_made _ hB (Nat.le_refl _) hbw hl.out (Nat.le_refl _) (by omega) hR.dig hv2.out).mono ?_
      rintro e w1 ⟨A, c', zs, rfl, hg, hnrm, hb⟩
      go_wp2
      go_ret
      exact ⟨A, c', zs, rfl, hg, hnrm, hb⟩
theorem shr_in {A1 : Option Addr} {xs : List Nat} (c1 n : Nat) (hn : n ≤ 131072) (w : World) (h1 : RdU w w.heap.size A1 xs) (hn1 : xs.length ≤ 274877906944) (d1 : Dig 18446744073709551616 xs) :
    Calls Tryz.prog 145 #[.slice A1 xs.length c1, .int .i64 n] w (RetN w (vl 18446744073709551616 xs / 2 ^ n)) :=
  shr_min c1 n n (by omega) w h1 hn1 d1
/-- Any n. -/
theorem shr_any {A1 : Option Addr} {xs : List Nat} (c1 : Nat) (n : Int) (w : World) (h1 : RdU w w.heap.size A1 xs) (hn1 : xs.length ≤ 274877906944) (d1 : Dig 18446744073709551616 xs) :
    Calls Tryz.prog 145 #[.slice A1 xs.length c1, .int .i64 n] w (RetN w (vl 18446744073709551616 xs / 2 ^ (min (max n 0) 131072).toNat)) :=
  shr_min c1 _ n (by omega) w h1 hn1 d1
end Go.Proofs.YtdlkfnkmdlcekaaGreatDoor
namespace Go.Proofs.YtdlkfnkmdlcekaaGreatDoor
open Go.RowKit Go.Cal
theorem quiet_of2 {P : Program} {f : FuncId} {args : Array Value} {w : World} {k n : Nat} {v : Value}
    (h : Calls P f args (w.drewN (k + n)) fun e w' => e = .returned v ∧ Drawn (w.drewN (k + n)) w') : Calls P f args (w.drewN (k + n)) fun e w'' => e = .returned v ∧ ∃ m, w'' = w.drewN (k + m) :=
  h.mono fun _ _ ⟨he, m, hm⟩ => ⟨he, n + m, by rw [hm, World.drewN_drewN, Nat.add_assoc]⟩
theorem dig_words {x y c : Nat} (hx : x < 18446744073709551616) (hy : y < 18446744073709551616) (hc : c < 18446744073709551616) :
    x * y / 18446744073709551616 + (x * y % 18446744073709551616 + c) / 18446744073709551616 < 18446744073709551616 ∧
    x * y + c = (x * y % 18446744073709551616 + c) % 18446744073709551616 + 18446744073709551616 * (x * y / 18446744073709551616 + (x * y % 18446744073709551616 + c) / 18446744073709551616) := by
  have h : x * y ≤ 18446744073709551615 * 18446744073709551615 := Nat.mul_le_mul (by omega) (by omega)
  omega
theorem sub_words {u l b : Nat} (hu : u < 18446744073709551616) (hl : l < 18446744073709551616) (hb : b ≤ 1) :
    (u + 18446744073709551616 - l - b) % 18446744073709551616 < 18446744073709551616 ∧ (if u < l + b then 1 else 0) ≤ 1 ∧
    (u + 18446744073709551616 - l - b) % 18446744073709551616 + l + b = u + 18446744073709551616 * (if u < l + b then 1 else 0) := by
  split <;> omega
theorem add_words {u y c : Nat} (hu : u < 18446744073709551616) (hy : y < 18446744073709551616) (hc : c ≤ 1) :
    (u + y + c) % 18446744073709551616 < 18446744073709551616 ∧ (u + y + c) / 18446744073709551616 ≤ 1 ∧ u + y + c = (u + y + c) % 18446744073709551616 + 18446744073709551616 * ((u + y + c) / 18446744073709551616) := by
  omega
theorem dmend_pos {b X V P S G : Nat} (h : DMend b X V P S G 1) : 0 < G := by
  rcases Nat.eq_zero_or_pos G with h0 | h0
  · have h1 := h.val
    have h2 := h.lt
    subst h0
    omega
  · exact h0
/-- What digit tells and leaves. -/
def DigitR (w : World) (g k n : Nat) (L : List Nat) (X V : Nat) (e : Ending) (w' : World) : Prop :=
  ∃ L', e = .returned (.int .u64 ((X / V : Nat) : Int)) ∧ BlkU w' g 22 L' ∧ WinEq L L' k n ∧ Dig 18446744073709551616 L' ∧ vl 18446744073709551616 ((L'.drop k).take (n + 1)) = X % V ∧ w.grownBy w' (some g)
set_option maxRecDepth 100000 in
set_option maxHeartbeats 1000000 in
theorem digit_lt {g k c c2 n : Nat} {B : Nat} {A2 : Option Addr} {L ys : List Nat} (w : World) (hB : BlkU w g 22 L) (hk : k + n + 1 ≤ L.length) (h2 : RdU w B A2 ys) (hBg : B ≤ g) (hyl : ys.length = n) (hn : 0 < n) (hn2 : L.length ≤ 274877906944)
    (dL : Dig 18446744073709551616 L) (d2 : Dig 18446744073709551616 ys) (hX : vl 18446744073709551616 ((L.drop k).take (n + 1)) < vl 18446744073709551616 ys * 18446744073709551616) (hlt : L.getD (k + n) 0 < ys.getD (n - 1) 0) :
    Calls Tryz.prog 144 #[.slice (some ⟨g, k, none⟩) (n + 1) c, .slice A2 n c2] w (DigitR w g k n L (vl 18446744073709551616 ((L.drop k).take (n + 1))) (vl 18446744073709551616 ys)) := by
  have hBw : B ≤ w.heap.size := Nat.le_trans hBg (Nat.le_of_lt hB.lt)
  obtain ⟨b2, o2, rfl, hb2, hcv⟩ := h2.at (i := n - 1) (by omega)
  have hv0 := hcv (n - 1) (by omega)
  clear hcv
  have hun := hB.cell (k + n) (by omega)
  have hun1 := hB.cell (k + (n - 1)) (by omega)
  have hn0 : (n : Int) < ((n + 1 : Nat) : Int) := by omega
  have hn1 : (n : Int) - 1 < (n : Int) := by omega
  have hn3 : (n : Int) - 1 < ((n + 1 : Nat) : Int) := by omega
  have hn4 : ((n : Int) - 1).toNat = n - 1 := by omega
  have hn5 : 0 ≤ (n : Int) - 1 := by omega
  obtain ⟨u1, hu1⟩ : ∃ x, L.getD (k + n) 0 = x := ⟨_, rfl⟩
  obtain ⟨u0, hu0⟩ : ∃ x, L.getD (k + (n - 1)) 0 = x := ⟨_, rfl⟩
  obtain ⟨v, hv⟩ : ∃ x, ys.getD (n - 1) 0 = x := ⟨_, rfl⟩
  rw [hu1] at hun hlt
  rw [hu0] at hun1
  rw [hv] at hv0 hlt
  have hu0b : u0 < 18446744073709551616 := hu0 ▸ dig_getD (by omega) dL _
  have hvb : v < 18446744073709551616 := hv ▸ dig_getD (by omega) d2 _
  have hlt' : (u1 : Int) < (v : Int) := by omega
  have hdv := fun W => div64_any u1 u0 v hu0b hlt hvb W
  obtain ⟨G, hG⟩ : ∃ G, (u1 * 18446744073709551616 + u0) / v = G := ⟨_, rfl⟩
  have hGb : G < 18446744073709551616 := by
    rw [← hG, Nat.div_lt_iff_lt_mul (by omega)]
    have : (u1 + 1) * 18446744073709551616 ≤ v * 18446744073709551616 := Nat.mul_le_mul_right _ hlt
    rw [Nat.mul_comm 18446744073709551616 v]
    omega
  have hGtop : vl 18446744073709551616 ((L.drop k).take (n + 1)) < (G + 1) * vl 18446744073709551616 ys := by
    obtain ⟨m, rfl⟩ : ∃ m, n = m + 1 := ⟨n - 1, by omega⟩
    have h1 := window_top (n := m) (dig_drop dL k) (by simp; omega)
    rw [getD_drop', getD_drop', hu1, show k + m = k + (m + 1 - 1) by omega, hu0] at h1
    have h3 := divisor_low (b := 18446744073709551616) (ys := ys) (n := m) hyl.symm
    rw [show m = m + 1 - 1 by omega, hv] at h3
    exact guess_top h3 (by simpa using h1) hG.symm (by omega)
  obtain ⟨rm, hrm⟩ : ∃ r, (u1 * 18446744073709551616 + u0) % v = r := ⟨_, rfl⟩
  simp only [hG, hrm] at hdv
  clear hrm
  replace hdv := Lib.hid hdv
  replace hG := Lib.hid hG
  replace hGtop := Lib.hid hGtop
  replace hu1 := Lib.hid hu1
  replace hu0 := Lib.hid hu0
  replace hv := Lib.hid hv
  replace hX := Lib.hid hX
  replace hyl := Lib.hid hyl
  replace dL := Lib.hid dL
  replace d2 := Lib.hid d2
  go_enter Tryz.func144, Tryz.ntmps144
  go_wp2_with fail
  go_step3
  go_wp2_with fail
  go_quiet (fail)
  go_wp2_with fail
  go_quiet ((go_at_call 84; exact quiet_of2 ((hdv.out _).mono fun _ _ h => h)))
  rename_i nq0
  obtain ⟨nr, hnr⟩ : ∃ x, nq = x := ⟨_, rfl⟩
  rw [hnr]
  clear hnr nq
  obtain ⟨nq, hnq⟩ : ∃ x, nq0 = x := ⟨_, rfl⟩
  rw [hnq]
  clear hnq nq0
  go_wp2_with fail
  obtain ⟨w0, hw0⟩ : ∃ x, w.drewN (nq + nr) = x := ⟨_, rfl⟩
  have hB' : BlkU (w.drewN (nq + nr)) g 22 L := hB
  have hg' : w.grownBy (w.drewN (nq + nr)) (some g) := only_drawn (only_refl w _) ⟨_, rfl⟩
  rw [hw0] at hB' hg' ⊢
  clear hw0 hB
  go_loopw [7, 8, 46] (fun bo ca iv wr => ∃ (i b1 c2 : Nat) (L1 : List Nat), i ≤ n + 1 ∧ iv = .int .i64 i ∧ bo = .int .u64 b1 ∧ ca = .int .u64 c2 ∧ BlkU wr g 22 L1 ∧ w.grownBy wr (some g) ∧ WinEq L L1 k n ∧ Dig 18446744073709551616 L1 ∧ DSub 18446744073709551616 (L.drop k) (L1.drop k) ys G i b1 c2) (fun _ _ iv _ => n + 1 - (intOf iv).toNat)
  case atStart => exact ⟨0, 0, 0, L, by omega, rfl, rfl, rfl, hB', hg', .refl _ _ _, dL.out, ⟨dig_drop dL.out _, by omega, by omega, fun _ _ => rfl, by simp [vl], by simp⟩⟩
  case round =>
    clear hB' hg'
    obtain ⟨i, b1, ca, L1, hi, rfl, rfl, rfl, hB1, hg1, hW1, dL1, hD⟩ := hrel
    have hL1 := hW1.len
    by_cases hin : i < n + 1
    · have hii : (i : Int) < (n : Int) + 1 := by omega
      obtain ⟨y, hy⟩ : ∃ x, ys.getD i 0 = x := ⟨_, rfl⟩
      obtain ⟨u, hu⟩ : ∃ x, L1.getD (k + i) 0 = x := ⟨_, rfl⟩
      have hy1 : y < 18446744073709551616 := hy ▸ dig_getD (by omega) d2.out i
      have hu1 : u < 18446744073709551616 := hu ▸ dig_getD (by omega) dL1 (k + i)
      have hcell := hB1.cell (k + i) (by omega)
      rw [hu] at hcell
      have hfr := hB1.frozen (k + i)
      have hat := at_any c2 i wr (h2.only hg1 hBg hBw)
      rw [hy, hyl.out] at hat
      replace hat := Lib.hid hat
      go_wp2_with fail
      refine hat.out.mono ?_
      rintro e w1 ⟨rfl, rfl⟩
      go_wp2_with fail
      refine (mul64_any G y hGb hy1 _).mono ?_
      rintro e w1 ⟨rfl, rfl⟩
      obtain ⟨hw1, hw2⟩ := dig_words hGb hy1 hD.ca1
      have ha1 := run_add64_0 (G * y % 18446744073709551616) ca
      have hs1 := run_sub64' u ((G * y % 18446744073709551616 + ca) % 18446744073709551616) b1 hD.bo1
      obtain ⟨hv1, hv2, hv3⟩ := sub_words hu1 (Nat.mod_lt (G * y % 18446744073709551616 + ca) (show 0 < 18446744073709551616 by omega)) hD.bo1
      have hst := hD.step (s := (u + 18446744073709551616 - (G * y % 18446744073709551616 + ca) % 18446744073709551616 - b1) % 18446744073709551616) (by simp; omega) hy (by rw [getD_drop', hu]) hv1 hv2 hw1 hv3 hw2
      rw [← drop_set_in] at hst
      have hset := hB1.set (k + i) ((u + 18446744073709551616 - (G * y % 18446744073709551616 + ca) % 18446744073709551616 - b1) % 18446744073709551616)
      have hwin := hW1.set i ((u + 18446744073709551616 - (G * y % 18446744073709551616 + ca) % 18446744073709551616 - b1) % 18446744073709551616) (by omega)
      have hdl := dig_set dL1 (k + i) hv1
      replace hst := Lib.hid hst
      replace hset := Lib.hid hset
      replace hwin := Lib.hid hwin
      replace hdl := Lib.hid hdl
      clear hw2 hv3 hv2 hv1
      replace hy := Lib.hid hy
      replace hu := Lib.hid hu
      generalize (if u < (G * y % 18446744073709551616 + ca) % 18446744073709551616 + b1 then 1 else 0) = bo at *
      generalize (u + 18446744073709551616 - (G * y % 18446744073709551616 + ca) % 18446744073709551616 - b1) % 18446744073709551616 = s at *
      generalize (G * y % 18446744073709551616 + ca) % 18446744073709551616 = l1 at *
      generalize (G * y % 18446744073709551616 + ca) / 18446744073709551616 = c3 at *
      generalize G * y % 18446744073709551616 = l0 at *
      generalize G * y / 18446744073709551616 = p at *
      have hw1' : (p : Int) + (c3 : Int) < 18446744073709551616 := by omega
      go_wp2
      exact ⟨⟨i + 1, bo, p + c3, _, by omega, by go_num, by go_num, by go_num, hset.out, only_set hg1 _ _, hwin.out, hdl.out, hst.out⟩, by simp [intOf]; omega⟩
    · have hi' : i = n + 1 := by omega
      have hii : ¬(i : Int) < (n : Int) + 1 := by omega
      have hM := (hi' ▸ hD).done hyl.out hGb (by simp; omega) d2.out hGtop.out
      clear hD hGtop hG hdv hun hun1 hv0 hn1 hn3 hn4 hn5 hlt hlt' hu0b hvb hu0 hu1 hv
      replace hi' := Lib.hid hi'
      obtain ⟨P, hP⟩ : ∃ P, 18446744073709551616 ^ (n + 1) = P := ⟨_, rfl⟩
      obtain ⟨X, hXe⟩ : ∃ X, vl 18446744073709551616 ((L.drop k).take (n + 1)) = X := ⟨_, rfl⟩
      obtain ⟨V, hVe⟩ : ∃ V, vl 18446744073709551616 ys = V := ⟨_, rfl⟩
      rw [hXe, hVe, hP] at hM
      replace hP := Lib.hid hP
      replace hVe := Lib.hid hVe
      replace hXe := Lib.hid hXe
      go_wp2_with fail
      go_step3
      go_wp2_with fail
      go_loopw [6, 7] (fun gv bo wr => ∃ (G1 b1 : Nat) (L2 : List Nat), gv = .int .u64 G1 ∧ bo = .int .u64 b1 ∧ G1 < 18446744073709551616 ∧ BlkU wr g 22 L2 ∧ w.grownBy wr (some g) ∧ WinEq L L2 k n ∧ Dig 18446744073709551616 L2 ∧ DMend 18446744073709551616 X V P (vl 18446744073709551616 ((L2.drop k).take (n + 1))) G1 b1) (fun gv _ _ => (intOf gv).toNat)
      case atStart => exact ⟨G, b1, L1, rfl, rfl, hGb, hB1, hg1, hW1, dL1, hM⟩
      case round =>
        clear hB1 hg1 hW1 dL1 hM hL1
        obtain ⟨G1, b3, L2, rfl, rfl, hG1, hB2, hg2, hW2, dL2, hM⟩ := hrel
        rcases (show b3 = 0 ∨ b3 = 1 by have := hM.bo1; omega) with hb3 | hb3
        · subst hb3
          obtain ⟨he1, he2⟩ := hM.done
          replace he1 := Lib.hid he1
          replace he2 := Lib.hid he2
          clear hM
          go_wp2
          rw [Exit.noGoto_ret]
          go_ret
          exact ⟨L2, by rw [hXe.out, hVe.out, ← he1.out]; rfl, hB2, hW2, dL2, by rw [hXe.out, hVe.out, ← he2.out], hg2⟩
        · have hb0 : ¬(b3 : Int) = 0 := by omega
          have hb1 : (b3 : Int) < 2 := by omega
          replace hM := hb3 ▸ hM
          have hGp := dmend_pos hM
          replace hb3 := Lib.hid hb3
          have hGi : 1 ≤ (G1 : Int) := by omega
          have hGi2 : (G1 : Int) - 1 < 18446744073709551616 := by omega
          have hL2 := hW2.len
          replace hM := Lib.hid hM
          go_wp2_with fail
          clear hb0
          obtain ⟨bb, hbb⟩ : ∃ bb, ((b3 : Int) == 0) = bb := ⟨_, rfl⟩
          rw [hbb]
          clear hbb
          go_loopw [8, 86] (fun cv iv wr => ∃ (i c3 : Nat) (L3 : List Nat), i ≤ n + 1 ∧ iv = .int .i64 i ∧ cv = .int .u64 c3 ∧ BlkU wr g 22 L3 ∧ w.grownBy wr (some g) ∧ WinEq L L3 k n ∧ Dig 18446744073709551616 L3 ∧ DAdd 18446744073709551616 (L2.drop k) (L3.drop k) ys i c3) (fun _ iv _ => n + 1 - (intOf iv).toNat)
          case atStart => exact ⟨0, 0, L2, by omega, rfl, rfl, hB2, hg2, hW2, dL2, ⟨dig_drop dL2 _, by omega, fun _ _ => rfl, by simp [vl]⟩⟩
          case round =>
            clear hB2 hg2 hW2
            obtain ⟨j, c3, L3, hj, rfl, rfl, hB3, hg3, hW3, dL3, hD⟩ := hrel
            have hL3 := hW3.len
            by_cases hjn : j < n + 1
            · have hjj : (j : Int) < (n : Int) + 1 := by omega
              obtain ⟨y, hy⟩ : ∃ x, ys.getD j 0 = x := ⟨_, rfl⟩
              obtain ⟨u, hu⟩ : ∃ x, L3.getD (k + j) 0 = x := ⟨_, rfl⟩
              have hy1 : y < 18446744073709551616 := hy ▸ dig_getD (by omega) d2.out j
              have hu1 : u < 18446744073709551616 := hu ▸ dig_getD (by omega) dL3 (k + j)
              have hcell := hB3.cell (k + j) (by omega)
              rw [hu] at hcell
              have hfr := hB3.frozen (k + j)
              have hat := at_any c2 j wr.drew ((h2.only hg3 hBg hBw).drewN 1)
              rw [hy, hyl.out] at hat
              replace hat := Lib.hid hat
              have ha1 := run_add64 u y c3 hD.c1
              obtain ⟨hv1, hv2, hv3⟩ := add_words hu1 hy1 hD.c1
              have hst := hD.step (s := (u + y + c3) % 18446744073709551616) (by simp; omega) hy (by rw [getD_drop', hu]) hv1 hv2 hv3
              rw [← drop_set_in] at hst
              have hset := (hB3.set (k + j) ((u + y + c3) % 18446744073709551616)).drew
              have hgs := only_drawn (only_set hg3 (k + j) (.int .u64 (((u + y + c3) % 18446744073709551616 : Nat) : Int))) ((Drawn.refl _).drewN 1)
              have hwin := hW3.set j ((u + y + c3) % 18446744073709551616) (by omega)
              have hdl := dig_set dL3 (k + j) hv1
              clear hv3 hv2 hv1
              replace hy := Lib.hid hy
              replace hu := Lib.hid hu
              generalize (u + y + c3) % 18446744073709551616 = s at *
              generalize (u + y + c3) / 18446744073709551616 = c4 at *
              replace hst := Lib.hid hst
              replace hset := Lib.hid hset
              replace hgs := Lib.hid hgs
              replace hwin := Lib.hid hwin
              replace hdl := Lib.hid hdl
              go_wp2
              go_region_with (go_at_call 51; refine hat.out.mono ?_; rintro e w1 ⟨rfl, rfl⟩)
              all_goals go_wp2
              all_goals exact ⟨⟨j + 1, c4, _, by omega, by go_num, by go_num, hset.out, hgs.out, hwin.out, hdl.out, hst.out⟩, by simp [intOf]; omega⟩
            · have hj' : j = n + 1 := by omega
              have hjj : ¬(j : Int) < (n : Int) + 1 := by omega
              obtain ⟨hq1, hq2⟩ := (hj' ▸ hD).done hyl.out (by simp; omega)
              rw [hP.out, hVe.out] at hq1
              rw [hP.out] at hq2
              obtain ⟨-, hst⟩ := hM.out.step hq1 hq2 hD.c1
              have hc1 : (c3 : Int) ≤ 1 := by have := hD.c1; omega
              have hcb : (c3 : Int) ≤ (b3 : Int) := by have := hD.c1; have := hb3.out; omega
              have hc0 : (b3 : Int) - c3 = ((1 - c3 : Nat) : Int) := by have := hD.c1; have := hb3.out; omega
              have hg0 : (G1 : Int) - 1 = ((G1 - 1 : Nat) : Int) := by omega
              clear hq1 hq2 hD
              replace hst := Lib.hid hst
              replace hj' := Lib.hid hj'
              replace hc0 := Lib.hid hc0
              replace hg0 := Lib.hid hg0
              go_wp2
              exact ⟨⟨G1 - 1, 1 - c3, L3, by rw [← hg0.out], by rw [← hc0.out], by omega, hB3, hg3, hW3, dL3, hst.out⟩, by simp [intOf]; omega⟩
set_option maxRecDepth 100000 in
set_option maxHeartbeats 1000000 in
theorem digit_ge {g k c c2 n : Nat} {B : Nat} {A2 : Option Addr} {L ys : List Nat} (w : World) (hB : BlkU w g 22 L) (hk : k + n + 1 ≤ L.length) (h2 : RdU w B A2 ys) (hBg : B ≤ g) (hyl : ys.length = n) (hn : 0 < n) (hn2 : L.length ≤ 274877906944)
    (dL : Dig 18446744073709551616 L) (d2 : Dig 18446744073709551616 ys) (hX : vl 18446744073709551616 ((L.drop k).take (n + 1)) < vl 18446744073709551616 ys * 18446744073709551616) (hlt : ¬L.getD (k + n) 0 < ys.getD (n - 1) 0) :
    Calls Tryz.prog 144 #[.slice (some ⟨g, k, none⟩) (n + 1) c, .slice A2 n c2] w (DigitR w g k n L (vl 18446744073709551616 ((L.drop k).take (n + 1))) (vl 18446744073709551616 ys)) := by
  have hBw : B ≤ w.heap.size := Nat.le_trans hBg (Nat.le_of_lt hB.lt)
  obtain ⟨b2, o2, rfl, hb2, hcv⟩ := h2.at (i := n - 1) (by omega)
  have hv0 := hcv (n - 1) (by omega)
  clear hcv
  have hun := hB.cell (k + n) (by omega)
  have hn0 : (n : Int) < ((n + 1 : Nat) : Int) := by omega
  have hn1 : (n : Int) - 1 < (n : Int) := by omega
  have hn3 : (n : Int) - 1 < ((n + 1 : Nat) : Int) := by omega
  have hn4 : ((n : Int) - 1).toNat = n - 1 := by omega
  have hn5 : 0 ≤ (n : Int) - 1 := by omega
  obtain ⟨u1, hu1⟩ : ∃ x, L.getD (k + n) 0 = x := ⟨_, rfl⟩
  obtain ⟨v, hv⟩ : ∃ x, ys.getD (n - 1) 0 = x := ⟨_, rfl⟩
  rw [hu1] at hun hlt
  rw [hv] at hv0 hlt
  have hlt' : ¬(u1 : Int) < (v : Int) := by omega
  obtain ⟨G, hGe⟩ : ∃ G : Nat, (18446744073709551615 : Int) = (G : Int) := ⟨18446744073709551615, rfl⟩
  have hGb : G < 18446744073709551616 := by omega
  have hGtop : vl 18446744073709551616 ((L.drop k).take (n + 1)) < (G + 1) * vl 18446744073709551616 ys := by
    rw [show G + 1 = 18446744073709551616 by omega, Nat.mul_comm]; exact hX
  have hun1 := True.intro
  have hG := True.intro
  have hdv := True.intro
  have hu0b := True.intro
  have hvb := True.intro
  have hu0 := True.intro
  replace hGe := Lib.hid hGe
  replace hGtop := Lib.hid hGtop
  replace hu1 := Lib.hid hu1
  replace hv := Lib.hid hv
  replace hX := Lib.hid hX
  replace hyl := Lib.hid hyl
  replace dL := Lib.hid dL
  replace d2 := Lib.hid d2
  go_enter Tryz.func144, Tryz.ntmps144
  go_wp2_with fail
  go_step3
  go_wp2_with fail
  go_quiet (fail)
  go_wp2_with fail
  rw [hGe.out]
  obtain ⟨w0, hw0⟩ : ∃ x, w.drewN nq = x := ⟨_, rfl⟩
  have hB' : BlkU (w.drewN nq) g 22 L := hB
  have hg' : w.grownBy (w.drewN nq) (some g) := only_drawn (only_refl w _) ⟨_, rfl⟩
  rw [hw0] at hB' hg' ⊢
  clear hw0 hB
  go_loopw [7, 8, 46] (fun bo ca iv wr => ∃ (i b1 c2 : Nat) (L1 : List Nat), i ≤ n + 1 ∧ iv = .int .i64 i ∧ bo = .int .u64 b1 ∧ ca = .int .u64 c2 ∧ BlkU wr g 22 L1 ∧ w.grownBy wr (some g) ∧ WinEq L L1 k n ∧ Dig 18446744073709551616 L1 ∧ DSub 18446744073709551616 (L.drop k) (L1.drop k) ys G i b1 c2) (fun _ _ iv _ => n + 1 - (intOf iv).toNat)
  case atStart => exact ⟨0, 0, 0, L, by omega, rfl, rfl, rfl, hB', hg', .refl _ _ _, dL.out, ⟨dig_drop dL.out _, by omega, by omega, fun _ _ => rfl, by simp [vl], by simp⟩⟩
  case round =>
    clear hB' hg'
    obtain ⟨i, b1, ca, L1, hi, rfl, rfl, rfl, hB1, hg1, hW1, dL1, hD⟩ := hrel
    have hL1 := hW1.len
    by_cases hin : i < n + 1
    · have hii : (i : Int) < (n : Int) + 1 := by omega
      obtain ⟨y, hy⟩ : ∃ x, ys.getD i 0 = x := ⟨_, rfl⟩
      obtain ⟨u, hu⟩ : ∃ x, L1.getD (k + i) 0 = x := ⟨_, rfl⟩
      have hy1 : y < 18446744073709551616 := hy ▸ dig_getD (by omega) d2.out i
      have hu1 : u < 18446744073709551616 := hu ▸ dig_getD (by omega) dL1 (k + i)
      have hcell := hB1.cell (k + i) (by omega)
      rw [hu] at hcell
      have hfr := hB1.frozen (k + i)
      have hat := at_any c2 i wr (h2.only hg1 hBg hBw)
      rw [hy, hyl.out] at hat
      replace hat := Lib.hid hat
      go_wp2_with fail
      refine hat.out.mono ?_
      rintro e w1 ⟨rfl, rfl⟩
      go_wp2_with fail
      refine (mul64_any G y hGb hy1 _).mono ?_
      rintro e w1 ⟨rfl, rfl⟩
      obtain ⟨hw1, hw2⟩ := dig_words hGb hy1 hD.ca1
      have ha1 := run_add64_0 (G * y % 18446744073709551616) ca
      have hs1 := run_sub64' u ((G * y % 18446744073709551616 + ca) % 18446744073709551616) b1 hD.bo1
      obtain ⟨hv1, hv2, hv3⟩ := sub_words hu1 (Nat.mod_lt (G * y % 18446744073709551616 + ca) (show 0 < 18446744073709551616 by omega)) hD.bo1
      have hst := hD.step (s := (u + 18446744073709551616 - (G * y % 18446744073709551616 + ca) % 18446744073709551616 - b1) % 18446744073709551616) (by simp; omega) hy (by rw [getD_drop', hu]) hv1 hv2 hw1 hv3 hw2
      rw [← drop_set_in] at hst
      have hset := hB1.set (k + i) ((u + 18446744073709551616 - (G * y % 18446744073709551616 + ca) % 18446744073709551616 - b1) % 18446744073709551616)
      have hwin := hW1.set i ((u + 18446744073709551616 - (G * y % 18446744073709551616 + ca) % 18446744073709551616 - b1) % 18446744073709551616) (by omega)
      have hdl := dig_set dL1 (k + i) hv1
      replace hst := Lib.hid hst
      replace hset := Lib.hid hset
      replace hwin := Lib.hid hwin
      replace hdl := Lib.hid hdl
      clear hw2 hv3 hv2 hv1
      replace hy := Lib.hid hy
      replace hu := Lib.hid hu
      generalize (if u < (G * y % 18446744073709551616 + ca) % 18446744073709551616 + b1 then 1 else 0) = bo at *
      generalize (u + 18446744073709551616 - (G * y % 18446744073709551616 + ca) % 18446744073709551616 - b1) % 18446744073709551616 = s at *
      generalize (G * y % 18446744073709551616 + ca) % 18446744073709551616 = l1 at *
      generalize (G * y % 18446744073709551616 + ca) / 18446744073709551616 = c3 at *
      generalize G * y % 18446744073709551616 = l0 at *
      generalize G * y / 18446744073709551616 = p at *
      have hw1' : (p : Int) + (c3 : Int) < 18446744073709551616 := by omega
      go_wp2
      exact ⟨⟨i + 1, bo, p + c3, _, by omega, by go_num, by go_num, by go_num, hset.out, only_set hg1 _ _, hwin.out, hdl.out, hst.out⟩, by simp [intOf]; omega⟩
    · have hi' : i = n + 1 := by omega
      have hii : ¬(i : Int) < (n : Int) + 1 := by omega
      have hM := (hi' ▸ hD).done hyl.out hGb (by simp; omega) d2.out hGtop.out
      clear hD hGtop hG hdv hun hun1 hv0 hn1 hn3 hn4 hn5 hlt hlt' hu0b hvb hu0 hu1 hv
      replace hi' := Lib.hid hi'
      obtain ⟨P, hP⟩ : ∃ P, 18446744073709551616 ^ (n + 1) = P := ⟨_, rfl⟩
      obtain ⟨X, hXe⟩ : ∃ X, vl 18446744073709551616 ((L.drop k).take (n + 1)) = X := ⟨_, rfl⟩
      obtain ⟨V, hVe⟩ : ∃ V, vl 18446744073709551616 ys = V := ⟨_, rfl⟩
      rw [hXe, hVe, hP] at hM
      replace hP := Lib.hid hP
      replace hVe := Lib.hid hVe
      replace hXe := Lib.hid hXe
      go_wp2_with fail
      go_step3
      go_wp2_with fail
      go_loopw [6, 7] (fun gv bo wr => ∃ (G1 b1 : Nat) (L2 : List Nat), gv = .int .u64 G1 ∧ bo = .int .u64 b1 ∧ G1 < 18446744073709551616 ∧ BlkU wr g 22 L2 ∧ w.grownBy wr (some g) ∧ WinEq L L2 k n ∧ Dig 18446744073709551616 L2 ∧ DMend 18446744073709551616 X V P (vl 18446744073709551616 ((L2.drop k).take (n + 1))) G1 b1) (fun gv _ _ => (intOf gv).toNat)
      case atStart => exact ⟨G, b1, L1, rfl, rfl, hGb, hB1, hg1, hW1, dL1, hM⟩
      case round =>
        clear hB1 hg1 hW1 dL1 hM hL1
        obtain ⟨G1, b3, L2, rfl, rfl, hG1, hB2, hg2, hW2, dL2, hM⟩ := hrel
        rcases (show b3 = 0 ∨ b3 = 1 by have := hM.bo1; omega) with hb3 | hb3
        · subst hb3
          obtain ⟨he1, he2⟩ := hM.done
          replace he1 := Lib.hid he1
          replace he2 := Lib.hid he2
          clear hM
          go_wp2
          rw [Exit.noGoto_ret]
          go_ret
          exact ⟨L2, by rw [hXe.out, hVe.out, ← he1.out]; rfl, hB2, hW2, dL2, by rw [hXe.out, hVe.out, ← he2.out], hg2⟩
        · have hb0 : ¬(b3 : Int) = 0 := by omega
          have hb1 : (b3 : Int) < 2 := by omega
          replace hM := hb3 ▸ hM
          have hGp := dmend_pos hM
          replace hb3 := Lib.hid hb3
          have hGi : 1 ≤ (G1 : Int) := by omega
          have hGi2 : (G1 : Int) - 1 < 18446744073709551616 := by omega
          have hL2 := hW2.len
          replace hM := Lib.hid hM
          go_wp2_with fail
          clear hb0
          obtain ⟨bb, hbb⟩ : ∃ bb, ((b3 : Int) == 0) = bb := ⟨_, rfl⟩
          rw [hbb]
          clear hbb
          go_loopw [8, 86] (fun cv iv wr => ∃ (i c3 : Nat) (L3 : List Nat), i ≤ n + 1 ∧ iv = .int .i64 i ∧ cv = .int .u64 c3 ∧ BlkU wr g 22 L3 ∧ w.grownBy wr (some g) ∧ WinEq L L3 k n ∧ Dig 18446744073709551616 L3 ∧ DAdd 18446744073709551616 (L2.drop k) (L3.drop k) ys i c3) (fun _ iv _ => n + 1 - (intOf iv).toNat)
          case atStart => exact ⟨0, 0, L2, by omega, rfl, rfl, hB2, hg2, hW2, dL2, ⟨dig_drop dL2 _, by omega, fun _ _ => rfl, by simp [vl]⟩⟩
          case round =>
            clear hB2 hg2 hW2
            obtain ⟨j, c3, L3, hj, rfl, rfl, hB3, hg3, hW3, dL3, hD⟩ := hrel
            have hL3 := hW3.len
            by_cases hjn : j < n + 1
            · have hjj : (j : Int) < (n : Int) + 1 := by omega
              obtain ⟨y, hy⟩ : ∃ x, ys.getD j 0 = x := ⟨_, rfl⟩
              obtain ⟨u, hu⟩ : ∃ x, L3.getD (k + j) 0 = x := ⟨_, rfl⟩
              have hy1 : y < 18446744073709551616 := hy ▸ dig_getD (by omega) d2.out j
              have hu1 : u < 18446744073709551616 := hu ▸ dig_getD (by omega) dL3 (k + j)
              have hcell := hB3.cell (k + j) (by omega)
              rw [hu] at hcell
              have hfr := hB3.frozen (k + j)
              have hat := at_any c2 j wr.drew ((h2.only hg3 hBg hBw).drewN 1)
              rw [hy, hyl.out] at hat
              replace hat := Lib.hid hat
              have ha1 := run_add64 u y c3 hD.c1
              obtain ⟨hv1, hv2, hv3⟩ := add_words hu1 hy1 hD.c1
              have hst := hD.step (s := (u + y + c3) % 18446744073709551616) (by simp; omega) hy (by rw [getD_drop', hu]) hv1 hv2 hv3
              rw [← drop_set_in] at hst
              have hset := (hB3.set (k + j) ((u + y + c3) % 18446744073709551616)).drew
              have hgs := only_drawn (only_set hg3 (k + j) (.int .u64 (((u + y + c3) % 18446744073709551616 : Nat) : Int))) ((Drawn.refl _).drewN 1)
              have hwin := hW3.set j ((u + y + c3) % 18446744073709551616) (by omega)
              have hdl := dig_set dL3 (k + j) hv1
              clear hv3 hv2 hv1
              replace hy := Lib.hid hy
              replace hu := Lib.hid hu
              generalize (u + y + c3) % 18446744073709551616 = s at *
              generalize (u + y + c3) / 18446744073709551616 = c4 at *
              replace hst := Lib.hid hst
              replace hset := Lib.hid hset
              replace hgs := Lib.hid hgs
              replace hwin := Lib.hid hwin
              replace hdl := Lib.hid hdl
              go_wp2
              go_region_with (go_at_call 51; refine hat.out.mono ?_; rintro e w1 ⟨rfl, rfl⟩)
              all_goals go_wp2
              all_goals exact ⟨⟨j + 1, c4, _, by omega, by go_num, by go_num, hset.out, hgs.out, hwin.out, hdl.out, hst.out⟩, by simp [intOf]; omega⟩
            · have hj' : j = n + 1 := by omega
              have hjj : ¬(j : Int) < (n : Int) + 1 := by omega
              obtain ⟨hq1, hq2⟩ := (hj' ▸ hD).done hyl.out (by simp; omega)
              rw [hP.out, hVe.out] at hq1
              rw [hP.out] at hq2
              obtain ⟨-, hst⟩ := hM.out.step hq1 hq2 hD.c1
              have hc1 : (c3 : Int) ≤ 1 := by have := hD.c1; omega
              have hcb : (c3 : Int) ≤ (b3 : Int) := by have := hD.c1; have := hb3.out; omega
              have hc0 : (b3 : Int) - c3 = ((1 - c3 : Nat) : Int) := by have := hD.c1; have := hb3.out; omega
              have hg0 : (G1 : Int) - 1 = ((G1 - 1 : Nat) : Int) := by omega
              clear hq1 hq2 hD
              replace hst := Lib.hid hst
              replace hj' := Lib.hid hj'
              replace hc0 := Lib.hid hc0
              replace hg0 := Lib.hid hg0
              go_wp2
              exact ⟨⟨G1 - 1, 1 - c3, L3, by rw [← hg0.out], by rw [← hc0.out], by omega, hB3, hg3, hW3, dL3, hst.out⟩, by simp [intOf]; omega⟩
theorem digit_any {g k c c2 n : Nat} {B : Nat} {A2 : Option Addr} {L ys : List Nat} (w : World) (hB : BlkU w g 22 L) (hk : k + n + 1 ≤ L.length) (h2 : RdU w B A2 ys) (hBg : B ≤ g) (hyl : ys.length = n) (hn : 0 < n) (hn2 : L.length ≤ 274877906944)
    (dL : Dig 18446744073709551616 L) (d2 : Dig 18446744073709551616 ys) (hX : vl 18446744073709551616 ((L.drop k).take (n + 1)) < vl 18446744073709551616 ys * 18446744073709551616) :
    Calls Tryz.prog 144 #[.slice (some ⟨g, k, none⟩) (n + 1) c, .slice A2 n c2] w (DigitR w g k n L (vl 18446744073709551616 ((L.drop k).take (n + 1))) (vl 18446744073709551616 ys)) := by
  by_cases h : L.getD (k + n) 0 < ys.getD (n - 1) 0
  · exact digit_lt w hB hk h2 hBg hyl hn hn2 dL d2 hX h
  · exact digit_ge w hB hk h2 hBg hyl hn hn2 dL d2 hX h
end Go.Proofs.YtdlkfnkmdlcekaaGreatDoor
