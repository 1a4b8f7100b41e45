/- The document's digits: the shortest ones; walked. Conditions: what Decode and Round tell. -/
/- Plain: what is printed is parsed as the pattern that stands for it. Conditions: none. -/
/- The document's digits: Short and Full, of a pattern of a number. Conditions: none. -/
import Derived.Test.YtncfbleeidjflaaGreatDoorPz42
import Derived.Test.YtncfbleeidjflaaGreatDoorPz43
import Derived.Test.YtncfbleeidjflaaGreatDoorPz35
import Derived.Test.YtncfbleeidjflaaGreatDoorPz39
import Derived.Test.YtncfbleeidjflaaGreatDoorPz37
namespace Go.Proofs.YtncfbleeidjflaaGreatDoor
open Go.RowKit Go.Cal
/-- What Round tells of digits: the pattern, just if they lie in its interval. -/
def RndI (id p : Int) (ng : Bool) (I : Itv) : Prop := ∀ (W : World) (A : Option Addr) (n c K d : Nat) (k : Int), IsT W (.slice A n c) K d → K ≤ 10000 → -5000 ≤ k ∧ k ≤ 5000 →
  Calls Tryz.prog 41 #[.int .i64 id, .int .i64 2, .agg #[.bool (ng && decide (0 < d)), .slice A n c, .int .i64 k, .int .i64 k]] W fun e w' => ∃ x : Int, e = .returned (.int .u64 x) ∧ (x == p) = itvHas I d k ∧ Below W.heap.size W w'
/-- How the search goes. -/
structure ShI (I : Itv) (mv : Nat) (ev L : Int) (F : Nat) (R : Nat × Int) : Prop where
  top : ∀ k : Int, -2000 ≤ k → 0 ≤ exC mv ev 0 1 k k → exC mv ev 0 1 (k + 1) (k + 1) < 0 → k = L
  inn : ∀ j : Nat, (∀ t : Nat, t < j → nigV I mv ev (L - t) = none) → j ≤ 20
  fd : ∀ j D : Nat, (∀ t : Nat, t < j → nigV I mv ev (L - t) = none) → nigV I mv ev (L - j) = some D → stripV F D (L - j) = R
  sm : exC mv ev 0 1 (L + 1) (L + 1) < 0 → ∀ j : Nat, j ≤ 20 → flQ mv ev (L - j) + 1 < 10 ^ 22
theorem isN_one9 {w : World} {A : Option Addr} {m : Nat} (h : IsN w (.slice A 1 1) 1 m) (h0 : 0 < m) : IsT w (.slice A 1 1) 1 m := by
  obtain ⟨A', c', zs, e, hr, h1, h2, h3, h4⟩ := h
  injection e with e1 e2 e3
  subst e1; subst e3
  obtain ⟨y, rfl⟩ : ∃ y, zs = [y] := by
    match zs, e2 with
    | [y], _ => exact ⟨y, rfl⟩
  have hy : y = m := by simpa [vl] using h4
  subst hy
  exact ⟨_, _, [y], rfl, hr, by simp, by unfold maxLen; omega, by simp, ⟨h3, fun h => by simp; omega, by simp [vl]⟩⟩
/-- The lowest word of a number, where it lies. -/
theorem isT_low9 {w : World} {A : Option Addr} {n c k N : Nat} (h : IsT w (.slice A n c) k N) : (n = 0 ∧ N = 0) ∨ (0 < n ∧ ∃ b off x : Nat, A = some ⟨b, off, none⟩ ∧ w.cell? ⟨b, off, none⟩ = some (.int .u64 (x : Nat)) ∧ x % 2 = N % 2 ∧ b < w.heap.size) := by
  obtain ⟨A', c', zs, e, hr, h1, h2, h3, h4⟩ := h
  injection e with e1 e2 e3
  subst e1; subst e2; subst e3
  match zs, hr, h4 with
  | [], _, h4 => exact .inl ⟨rfl, by have := h4.val; simp [vl] at this; exact this.symm⟩
  | x :: l, hr, h4 =>
    obtain ⟨b, off, rfl, hb, hc⟩ := hr.at (i := 0) (by simp)
    refine .inr ⟨by simp, b, off, x, rfl, by have := hc 0 (by simp); simpa using this, ?_, hb⟩
    have := h4.val
    simp only [vl] at this
    omega
theorem itv_zero (I : Itv) (k : Int) : itvHas I 0 k = false := by
  unfold itvHas
  rw [exC_zero_l]
  rcases Nat.eq_zero_or_pos I.lowN with h | h
  · rw [h]
    have : cmpV 0 ((0 : Nat) : Int) = 0 := cmpV_eq rfl
    rw [this]
    simp
  · have : cmpV 0 (I.lowN : Int) = -1 := cmpV_lt (by omega)
    rw [this]
    simp
theorem dsh_cases {one two : Bool} {rest : Int} {d : Nat} (hr : rest = 1 ∨ rest = 2 ∨ rest = 3) :
    (one = true ∧ two = false ∧ dshV one two rest d = some d) ∨ (one = true ∧ two = true ∧ rest = 1 ∧ dshV one two rest d = some d) ∨
    (one = true ∧ two = true ∧ rest = 2 ∧ d % 2 = 0 ∧ dshV one two rest d = some d) ∨ (one = true ∧ two = true ∧ rest = 2 ∧ d % 2 = 1 ∧ dshV one two rest d = some (d + 1)) ∨
    (one = true ∧ two = true ∧ rest = 3 ∧ dshV one two rest d = some (d + 1)) ∨ (one = false ∧ two = true ∧ dshV one two rest d = some (d + 1)) ∨ (one = false ∧ two = false ∧ dshV one two rest d = none) := by
  unfold dshV
  cases one <;> cases two
  · simp
  · simp
  · simp
  · rcases hr with rfl | rfl | rfl
    · simp
    · rcases (show d % 2 = 0 ∨ d % 2 = 1 by omega) with h | h <;> simp [h]
    · simp
set_option maxRecDepth 100000 in
set_option maxHeartbeats 16000000 in
theorem rshort11_of {id p : Int} {ng : Bool} {mv : Nat} {ev L : Int} {I : Itv} {F : Nat} {R : Nat × Int} (hdec : Dec2 id p ng mv ev) (hrnd : RndI id p ng I) (hsh : ShI I mv ev L F R) (m0 : 0 < mv) (mb : mv < 18446744073709551616) (he : -2000 ≤ ev ∧ ev ≤ 2000) (hF1 : 22 ≤ F) (hF2 : F ≤ 5000) (w : World) :
    Calls Tryz.prog 28 #[.int .i64 id, .int .u64 p] w fun e w' => ∃ A n c, e = .returned (.agg #[.bool ng, .slice A n c, .int .i64 R.2]) ∧ IsT w' (.slice A n c) 2 R.1 ∧ Below w.heap.size w w' := by
  obtain ⟨htop, hinn, hfd0, hsm⟩ := hsh
  have hhigh := Lib.hid fun (k : Int) (h : 700 ≤ k) => exC_high (N := mv) (t := ev) (k := k) mb he.2 h
  have hr0 := pBlk_made w #[.bool false, .slice none 0 0, .int .i64 0] 51
  have hb0 := (Below.refl w.heap.size w).alloc (Nat.le_refl _) (.cells #[.bool false, .slice none 0 0, .int .i64 0] 51)
  have hsz := Lib.hid fun w => rsize8_any mv ev m0 mb w
  have hlg := Lib.hid fun (W : World) A (h : IsT W (.slice A 1 1) 1 mv) => rlog2_any false ev W h (by decide) (by decide) m0 mb he
  have hfl := Lib.hid fun (W : World) A (h : IsT W (.slice A 1 1) 1 mv) (k : Int) (hk : -5000 ≤ k ∧ k ≤ 5000) (hq : flQ mv ev k < 18446744073709551616 ^ 2) => rfloor2_any false ev k W h.isN (by decide) mb he hk 2 hq
  have hdc := Lib.hid hdec
  replace hrnd := Lib.hid hrnd
  replace htop := Lib.hid htop
  replace hinn := Lib.hid hinn
  replace hfd0 := Lib.hid hfd0
  replace hsm := Lib.hid hsm
  clear hdec
  go_enter Tryz.func28, Tryz.ntmps28
  go_wp2_with fail
  refine (hdc.out _).mono ?_
  rintro e w1 ⟨rfl, hbd⟩
  have hB1 := hb0.trans (hbd.mono hb0.size)
  have ha1 := (Below.refl w1.heap.size w1).alloc (Nat.le_refl _) (.cells #[.int .i64 2, .bool ng, .int .u64 (mv : Nat), .int .i64 ev] 46)
  have hv1 := pBlk_made w1 #[.int .i64 2, .bool ng, .int .u64 (mv : Nat), .int .i64 ev] 46
  have hr1 := pBlk_st _ _ _ _ _ (pBlk_st _ _ _ _ _ hr0 hbd) ha1
  have hB2 := hB1.trans (ha1.mono hB1.size)
  obtain ⟨p0, p1, p2, p3⟩ := cells4E hv1
  have pl := hv1.lt
  clear hr0 hb0 hbd hdc ha1 hB1
  go_wp2_with fail
  refine (hsz.out _).mono ?_
  rintro e w3 ⟨AX, rfl, hN3, hb3⟩
  have hB3 := hB2.trans (hb3.mono hB2.size)
  have ha3 := (Below.refl w3.heap.size w3).alloc (Nat.le_refl _) (.cells #[.bool false, .slice AX 1 1, .int .i64 ev, .int .i64 0] 71)
  have hx3 := pBlk_made w3 #[.bool false, .slice AX 1 1, .int .i64 ev, .int .i64 0] 71
  have hv3 := pBlk_st _ _ _ _ _ (pBlk_st _ _ _ _ _ hv1 hb3) ha3
  have hr3 := pBlk_st _ _ _ _ _ (pBlk_st _ _ _ _ _ hr1 hb3) ha3
  have hd3 := (isN_one9 hN3 m0).below ha3
  have hB4 := hB3.trans (ha3.mono hB3.size)
  obtain ⟨s0, s1, s2, s3⟩ := cells4E hx3
  have sl := hx3.lt
  clear hv1 hr1 hB2 hB3 ha3 hb3 hN3 p0 p1 p2 p3 pl
  go_wp2_with fail
  refine (hlg.out _ _ hd3).mono ?_
  rintro e w5 ⟨k0, rfl, hk1, hk2, hk3, hb5⟩
  obtain rfl : k0 = L := htop.out k0 hk1 hk2 hk3
  have hL2 : k0 ≤ 700 := Classical.byContradiction fun h9 => by have := hhigh.out k0 (by omega); omega
  have hL1 : -2000 ≤ k0 := hk1
  have hsm := Lib.hid (hsm.out hk3)
  clear hhigh
  have hB5 := hB4.trans (hb5.mono hB4.size)
  have hx5 := pBlk_st _ _ _ _ _ hx3 hb5
  have hv5 := pBlk_st _ _ _ _ _ hv3 hb5
  have hr5 := pBlk_st _ _ _ _ _ hr3 hb5
  have hd5 := hd3.below hb5
  obtain ⟨x, hx⟩ : ∃ x, w3.heap.size = x := ⟨_, rfl⟩
  obtain ⟨v, hv⟩ : ∃ v, w1.heap.size = v := ⟨_, rfl⟩
  rw [hx] at hx5
  rw [hv] at hv5
  replace hx := Lib.hid hx
  replace hv := Lib.hid hv
  clear hx3 hv3 hr3 hd3 hB4 hb5 s0 s1 s2 s3 sl hk1 hk2 hk3 htop hlg hsz
  go_wp2_with fail
  have hx' := hx.out
  have hv' := hv.out
  try rw [hx']
  try rw [hv']
  clear hx' hv' hx hv
  go_loopg [9] 59 (fun g nv wr => ∃ j : Nat, nv = .int .i64 ((j : Int) + 1) ∧ j + g = 59 ∧ (∀ t : Nat, t < j → nigV I mv ev (k0 - t) = none) ∧ IsT wr (.slice AX 1 1) 1 mv ∧ pBlk x #[.bool false, .slice AX 1 1, .int .i64 ev, .int .i64 0] 71 wr ∧ pBlk v #[.int .i64 2, .bool ng, .int .u64 (mv : Nat), .int .i64 ev] 46 wr ∧ pBlk w.heap.size #[.bool false, .slice none 0 0, .int .i64 0] 51 wr ∧ Below w.heap.size w wr)
  case atStart => exact ⟨0, rfl, rfl, fun t ht => by omega, hd5, hx5, hv5, hr5, hB5⟩
  case round =>
    clear hd5 hx5 hv5 hr5 hB5
    obtain ⟨j, rfl, hjg, hno, hdX, hX, hV, hr, hB⟩ := hrel
    have hj20 := hinn.out j hno
    obtain ⟨kk, hkk⟩ : ∃ kk : Int, k0 - (j : Int) = kk := ⟨_, rfl⟩
    have hkb : -2100 ≤ kk ∧ kk ≤ 700 := by omega
    have hw1 : IntKind.i64.wrap (k0 + 1 - ((j : Int) + 1)) = kk := by rw [IntKind.wrap_i64]; omega
    have hw2 : k0 + 1 - ((j : Int) + 1) = kk := by omega
    have hjl : (j : Int) + 1 < 60 := by omega
    have hq22 := hsm.out j hj20
    have hfd := Lib.hid fun D => hfd0.out j D hno
    rw [hkk] at hq22 hfd
    have hnig := dsh_nig I mv ev kk
    obtain ⟨d, hd⟩ : ∃ d, flQ mv ev kk = d := ⟨_, rfl⟩
    obtain ⟨ρ, hρ⟩ : ∃ ρ, flR mv ev kk = ρ := ⟨_, rfl⟩
    have hρ4 := flR_bnd mv ev kk
    have h22 : (10 : Nat) ^ 22 < 18446744073709551616 ^ 2 := by decide
    have hfl1 := hfl.out wr AX hdX kk (by omega) (by omega)
    rw [hd] at hq22 hnig hfl1
    rw [hρ] at hnig hρ4 hfl1
    have h10 : (10 : Nat) ^ 22 ≤ 10 ^ F := Nat.pow_le_pow_right (by decide) hF1
    have hst := Lib.hid fun (W : World) A n c D (hv : IsT W (.slice A n c) 2 D) (hD : D < 10 ^ 22) => rstrip11_any ng kk F W hv (by decide) hF2 (Nat.lt_of_lt_of_le hD h10) (by omega)
    have hd2 : d + 1 < 18446744073709551616 ^ 2 := by omega
    have hD1 : d < 10 ^ 22 := by omega
    replace hnig := Lib.hid hnig
    replace hno := Lib.hid hno
    replace hkk := Lib.hid hkk
    replace hd := Lib.hid hd
    replace hρ := Lib.hid hρ
    replace hq22 := Lib.hid hq22
    replace hd2 := Lib.hid hd2
    replace hD1 := Lib.hid hD1
    clear h22 h10
    obtain ⟨s0, s1, s2, s3⟩ := cells4E hX
    have sl := hX.lt
    go_wp2_with fail
    refine hfl1.mono ?_
    rintro e w2 ⟨Ad, nd, cd, rfl, hdd, hb2⟩
    have hB2 := hB.trans (hb2.mono hB.size)
    have ha2 := (Below.refl w2.heap.size w2).alloc (Nat.le_refl _) (.cells #[.int .u64 1] 22)
    have had := radd1_any 2 _ (hdd.below ha2).isN (lit_t w2 1 (by decide) (by decide)).isN (by decide) (by decide) hd2.out (by decide)
    have hX2 := pBlk_st _ _ _ _ _ (pBlk_st _ _ _ _ _ hX hb2) ha2
    have hV2 := pBlk_st _ _ _ _ _ (pBlk_st _ _ _ _ _ hV hb2) ha2
    have hr2 := pBlk_st _ _ _ _ _ (pBlk_st _ _ _ _ _ hr hb2) ha2
    have hdX2 := (hdX.below hb2).below ha2
    have hdd2 := hdd.below ha2
    have hB3 := hB2.trans (ha2.mono hB2.size)
    clear s0 s1 s2 s3 sl hfl1 hX hV hr hdX hb2 hB hdd ha2 hB2
    go_wp2_with fail
    refine had.mono ?_
    rintro e w4 ⟨mv4, rfl, hm4, hb4⟩
    obtain ⟨Am, nm, cm, rfl, -⟩ := isT_shape9 hm4
    have hX4 := pBlk_st _ _ _ _ _ hX2 hb4
    have hV4 := pBlk_st _ _ _ _ _ hV2 hb4
    have hr4 := pBlk_st _ _ _ _ _ hr2 hb4
    have hdX4 := hdX2.below hb4
    have hdd4 := hdd2.below hb4
    have hB4 := hB3.trans (hb4.mono hB3.size)
    obtain ⟨p0, p1, p2, p3⟩ := cells4E hV4
    have pl := hV4.lt
    have htn := rten11_any ng kk w4 hdd4
    clear had hX2 hV2 hr2 hdX2 hdd2 hB3 hb4
    go_wp2_with fail
    refine htn.mono ?_
    rintro e w5 ⟨rfl, hb5⟩
    have hX5 := pBlk_st _ _ _ _ _ hX4 hb5
    have hV5 := pBlk_st _ _ _ _ _ hV4 hb5
    have hr5 := pBlk_st _ _ _ _ _ hr4 hb5
    have hdX5 := hdX4.below hb5
    have hdd5 := hdd4.below hb5
    have hm5 := hm4.below hb5
    have hB5 := hB4.trans (hb5.mono hB4.size)
    have hrn := hrnd.out w5 _ _ _ _ _ kk hdd5 (by decide) (by omega)
    clear htn hX4 hV4 hr4 hdX4 hdd4 hm4 hB4 hb5 p0 p1 p2 p3 pl
    go_wp2_with fail
    refine hrn.mono ?_
    rintro e w6 ⟨x1, rfl, hone, hb6⟩
    have hX6 := pBlk_st _ _ _ _ _ hX5 hb6
    have hV6 := pBlk_st _ _ _ _ _ hV5 hb6
    have hr6 := pBlk_st _ _ _ _ _ hr5 hb6
    have hdX6 := hdX5.below hb6
    have hdd6 := hdd5.below hb6
    have hm6 := hm5.below hb6
    have hB6 := hB5.trans (hb6.mono hB5.size)
    obtain ⟨p0, p1, p2, p3⟩ := cells4E hV6
    have pl := hV6.lt
    clear hrn hX5 hV5 hr5 hdX5 hdd5 hm5 hB5 hb6
    obtain ⟨one, hon⟩ : ∃ b, itvHas I d kk = b := ⟨_, rfl⟩
    obtain ⟨two, htw⟩ : ∃ b, itvHas I (d + 1) kk = b := ⟨_, rfl⟩
    have hz0 := fun h : d = 0 => (itv_zero I kk).symm.trans (h ▸ hon)
    have hnig2 := hnig.out
    rw [hon, htw] at hnig2
    rw [hon] at hone
    replace hon := Lib.hid hon
    replace htw := Lib.hid htw
    by_cases hρ0 : 0 < ρ
    · have hρ3 : ρ = 1 ∨ ρ = 2 ∨ ρ = 3 := by omega
      have hpos1 : (ng && decide (0 < d + 1)) = ng := by simp
      have htn := rten11_any ng kk w6 hm6
      rw [hpos1] at htn
      rw [show decide (0 < ρ) = true by simpa using hρ0, Bool.true_and] at hnig2
      have hdc := Lib.hid (dsh_cases (one := one) (two := two) (d := d) hρ3)
      clear hρ3 hρ4
      replace hz0 := Lib.hid hz0
      replace hnig2 := Lib.hid hnig2
      go_wp2_with fail
      refine htn.mono ?_
      rintro e w7 ⟨rfl, hb7⟩
      have hX7 := pBlk_st _ _ _ _ _ hX6 hb7
      have hV7 := pBlk_st _ _ _ _ _ hV6 hb7
      have hr7 := pBlk_st _ _ _ _ _ hr6 hb7
      have hdX7 := hdX6.below hb7
      have hdd7 := hdd6.below hb7
      have hm7 := hm6.below hb7
      have hB7 := hB6.trans (hb7.mono hB6.size)
      have hrn := hrnd.out w7 _ _ _ _ _ kk hm7 (by decide) (by omega)
      rw [hpos1] at hrn
      clear hpos1
      clear htn hX6 hV6 hr6 hdX6 hdd6 hm6 hB6 hb7 p0 p1 p2 p3 pl
      go_wp2_with fail
      refine hrn.mono ?_
      rintro e w8 ⟨x2, rfl, htwo, hb8⟩
      rw [htw.out] at htwo
      have hX8 := pBlk_st _ _ _ _ _ hX7 hb8
      have hV8 := pBlk_st _ _ _ _ _ hV7 hb8
      have hr8 := pBlk_st _ _ _ _ _ hr7 hb8
      have hdX8 := hdX7.below hb8
      have hdd8 := hdd7.below hb8
      have hm8 := hm7.below hb8
      have hB8 := hB7.trans (hb8.mono hB7.size)
      obtain ⟨p0, p1, p2, p3⟩ := cells4E hV8
      have pl := hV8.lt
      clear hrn hX7 hV7 hr7 hdX7 hdd7 hm7 hB7 hb8 hrnd hfl hinn hsm
      rcases isT_low9 hdd8 with ⟨rfl, hd0⟩ | ⟨hnd, b, off, y, rfl, hy, hyd, hbl⟩
      · obtain rfl : false = one := hz0.out hd0
        clear hd0
        rcases hdc.out with ⟨h, -⟩ | ⟨h, -⟩ | ⟨h, -⟩ | ⟨h, -⟩ | ⟨h, -⟩ | ⟨-, rfl, hc⟩ | ⟨-, rfl, hc⟩
        · cases h
        · cases h
        · cases h
        · cases h
        · cases h
        · have hN := Lib.hid (hnig2.out.trans hc)
          go_wp2_with fail
          refine (hst.out _ _ _ _ (d + 1) hm8 hq22.out).mono ?_
          rintro e w9 ⟨A9, n9, c9, rfl, hd9, hb9⟩
          have hB9 := hB8.trans (hb9.mono hB8.size)
          have hr9 := pBlk_st _ _ _ _ _ hr8 hb9
          go_wp2_with (first | ((with_reducible show wpList _ _ _ (Oper.mk _ (Op.store 51 _ _) _ _ _ _ :: _) _ _); refine wpList_store_keep _ rfl 51 _ _ rfl w.heap.size #[.bool ng, .slice A9 n9 c9, .int .i64 (stripV F (d + 1) kk).2] #[.bool false, .slice none 0 0, .int .i64 0] 51 rfl rfl hr9 rdig_size rfl (by simp [Value.oneCell']) noword3 ?_; intro wz hz hbz hkz; obtain ⟨z0, z1, z2⟩ := cells3D hz))
          exact bodyPost_ret (v := .agg #[.bool ng, .slice A9 n9 c9, .int .i64 (stripV F (d + 1) kk).2]) (by simp [results, Tryz.results28, go_sem, z0, z1, z2]) rfl ⟨A9, n9, c9, by rw [hfd.out _ hN.out], by rw [← hfd.out _ hN.out]; exact hkz _ _ _ hd9, hB9.trans hbz⟩
        · have hN := Lib.hid (hnig2.out.trans hc)
          go_wp2
          go_roundg (gk - 1)
          case measure => omega
          case rel =>
            refine ⟨j + 1, by go_num, by omega, fun t ht => ?_, hdX8, hX8, hV8, hr8, hB8⟩
            rcases Nat.lt_succ_iff_lt_or_eq.1 ht with h | rfl
            · exact hno.out t h
            · rw [hkk.out]; exact hN.out
      · have hnI : (0 : Int) < (nd : Int) := by omega
        rcases hdc.out with ⟨rfl, rfl, hc⟩ | ⟨rfl, rfl, rfl, hc⟩ | ⟨rfl, rfl, rfl, hpar, hc⟩ | ⟨rfl, rfl, rfl, hpar, hc⟩ | ⟨rfl, rfl, rfl, hc⟩ | ⟨rfl, rfl, hc⟩ | ⟨rfl, rfl, hc⟩
        · have hN := Lib.hid (hnig2.out.trans hc)
          go_wp2_with fail
          refine (hst.out _ _ _ _ d hdd8 hD1.out).mono ?_
          rintro e w9 ⟨A9, n9, c9, rfl, hd9, hb9⟩
          have hB9 := hB8.trans (hb9.mono hB8.size)
          have hr9 := pBlk_st _ _ _ _ _ hr8 hb9
          go_wp2_with (first | ((with_reducible show wpList _ _ _ (Oper.mk _ (Op.store 51 _ _) _ _ _ _ :: _) _ _); refine wpList_store_keep _ rfl 51 _ _ rfl w.heap.size #[.bool ng, .slice A9 n9 c9, .int .i64 (stripV F d kk).2] #[.bool false, .slice none 0 0, .int .i64 0] 51 rfl rfl hr9 rdig_size rfl (by simp [Value.oneCell']) noword3 ?_; intro wz hz hbz hkz; obtain ⟨z0, z1, z2⟩ := cells3D hz))
          exact bodyPost_ret (v := .agg #[.bool ng, .slice A9 n9 c9, .int .i64 (stripV F d kk).2]) (by simp [results, Tryz.results28, go_sem, z0, z1, z2]) rfl ⟨A9, n9, c9, by rw [hfd.out _ hN.out], by rw [← hfd.out _ hN.out]; exact hkz _ _ _ hd9, hB9.trans hbz⟩
        · have hN := Lib.hid (hnig2.out.trans hc)
          go_wp2_with fail
          refine (hst.out _ _ _ _ d hdd8 hD1.out).mono ?_
          rintro e w9 ⟨A9, n9, c9, rfl, hd9, hb9⟩
          have hB9 := hB8.trans (hb9.mono hB8.size)
          have hr9 := pBlk_st _ _ _ _ _ hr8 hb9
          go_wp2_with (first | ((with_reducible show wpList _ _ _ (Oper.mk _ (Op.store 51 _ _) _ _ _ _ :: _) _ _); refine wpList_store_keep _ rfl 51 _ _ rfl w.heap.size #[.bool ng, .slice A9 n9 c9, .int .i64 (stripV F d kk).2] #[.bool false, .slice none 0 0, .int .i64 0] 51 rfl rfl hr9 rdig_size rfl (by simp [Value.oneCell']) noword3 ?_; intro wz hz hbz hkz; obtain ⟨z0, z1, z2⟩ := cells3D hz))
          exact bodyPost_ret (v := .agg #[.bool ng, .slice A9 n9 c9, .int .i64 (stripV F d kk).2]) (by simp [results, Tryz.results28, go_sem, z0, z1, z2]) rfl ⟨A9, n9, c9, by rw [hfd.out _ hN.out], by rw [← hfd.out _ hN.out]; exact hkz _ _ _ hd9, hB9.trans hbz⟩
        · have hN := Lib.hid (hnig2.out.trans hc)
          have hpt : ((y : Int).tmod 2 == 0) = true := by rw [Int.tmod_eq_emod_of_nonneg (by omega)]; simp; omega
          have hpe : ((y : Int) % 2 == 0) = true := by simp; omega
          go_wp2_with fail
          refine (hst.out _ _ _ _ d hdd8 hD1.out).mono ?_
          rintro e w9 ⟨A9, n9, c9, rfl, hd9, hb9⟩
          have hB9 := hB8.trans (hb9.mono hB8.size)
          have hr9 := pBlk_st _ _ _ _ _ hr8 hb9
          go_wp2_with (first | ((with_reducible show wpList _ _ _ (Oper.mk _ (Op.store 51 _ _) _ _ _ _ :: _) _ _); refine wpList_store_keep _ rfl 51 _ _ rfl w.heap.size #[.bool ng, .slice A9 n9 c9, .int .i64 (stripV F d kk).2] #[.bool false, .slice none 0 0, .int .i64 0] 51 rfl rfl hr9 rdig_size rfl (by simp [Value.oneCell']) noword3 ?_; intro wz hz hbz hkz; obtain ⟨z0, z1, z2⟩ := cells3D hz))
          exact bodyPost_ret (v := .agg #[.bool ng, .slice A9 n9 c9, .int .i64 (stripV F d kk).2]) (by simp [results, Tryz.results28, go_sem, z0, z1, z2]) rfl ⟨A9, n9, c9, by rw [hfd.out _ hN.out], by rw [← hfd.out _ hN.out]; exact hkz _ _ _ hd9, hB9.trans hbz⟩
        · have hN := Lib.hid (hnig2.out.trans hc)
          have hpt : ((y : Int).tmod 2 == 0) = false := by rw [Int.tmod_eq_emod_of_nonneg (by omega)]; simp; omega
          have hpe : ((y : Int) % 2 == 0) = false := by simp; omega
          go_wp2_with fail
          refine (hst.out _ _ _ _ (d + 1) hm8 hq22.out).mono ?_
          rintro e w9 ⟨A9, n9, c9, rfl, hd9, hb9⟩
          have hB9 := hB8.trans (hb9.mono hB8.size)
          have hr9 := pBlk_st _ _ _ _ _ hr8 hb9
          go_wp2_with (first | ((with_reducible show wpList _ _ _ (Oper.mk _ (Op.store 51 _ _) _ _ _ _ :: _) _ _); refine wpList_store_keep _ rfl 51 _ _ rfl w.heap.size #[.bool ng, .slice A9 n9 c9, .int .i64 (stripV F (d + 1) kk).2] #[.bool false, .slice none 0 0, .int .i64 0] 51 rfl rfl hr9 rdig_size rfl (by simp [Value.oneCell']) noword3 ?_; intro wz hz hbz hkz; obtain ⟨z0, z1, z2⟩ := cells3D hz))
          exact bodyPost_ret (v := .agg #[.bool ng, .slice A9 n9 c9, .int .i64 (stripV F (d + 1) kk).2]) (by simp [results, Tryz.results28, go_sem, z0, z1, z2]) rfl ⟨A9, n9, c9, by rw [hfd.out _ hN.out], by rw [← hfd.out _ hN.out]; exact hkz _ _ _ hd9, hB9.trans hbz⟩
        · have hN := Lib.hid (hnig2.out.trans hc)
          go_wp2_with fail
          refine (hst.out _ _ _ _ (d + 1) hm8 hq22.out).mono ?_
          rintro e w9 ⟨A9, n9, c9, rfl, hd9, hb9⟩
          have hB9 := hB8.trans (hb9.mono hB8.size)
          have hr9 := pBlk_st _ _ _ _ _ hr8 hb9
          go_wp2_with (first | ((with_reducible show wpList _ _ _ (Oper.mk _ (Op.store 51 _ _) _ _ _ _ :: _) _ _); refine wpList_store_keep _ rfl 51 _ _ rfl w.heap.size #[.bool ng, .slice A9 n9 c9, .int .i64 (stripV F (d + 1) kk).2] #[.bool false, .slice none 0 0, .int .i64 0] 51 rfl rfl hr9 rdig_size rfl (by simp [Value.oneCell']) noword3 ?_; intro wz hz hbz hkz; obtain ⟨z0, z1, z2⟩ := cells3D hz))
          exact bodyPost_ret (v := .agg #[.bool ng, .slice A9 n9 c9, .int .i64 (stripV F (d + 1) kk).2]) (by simp [results, Tryz.results28, go_sem, z0, z1, z2]) rfl ⟨A9, n9, c9, by rw [hfd.out _ hN.out], by rw [← hfd.out _ hN.out]; exact hkz _ _ _ hd9, hB9.trans hbz⟩
        · have hN := Lib.hid (hnig2.out.trans hc)
          go_wp2_with fail
          refine (hst.out _ _ _ _ (d + 1) hm8 hq22.out).mono ?_
          rintro e w9 ⟨A9, n9, c9, rfl, hd9, hb9⟩
          have hB9 := hB8.trans (hb9.mono hB8.size)
          have hr9 := pBlk_st _ _ _ _ _ hr8 hb9
          go_wp2_with (first | ((with_reducible show wpList _ _ _ (Oper.mk _ (Op.store 51 _ _) _ _ _ _ :: _) _ _); refine wpList_store_keep _ rfl 51 _ _ rfl w.heap.size #[.bool ng, .slice A9 n9 c9, .int .i64 (stripV F (d + 1) kk).2] #[.bool false, .slice none 0 0, .int .i64 0] 51 rfl rfl hr9 rdig_size rfl (by simp [Value.oneCell']) noword3 ?_; intro wz hz hbz hkz; obtain ⟨z0, z1, z2⟩ := cells3D hz))
          exact bodyPost_ret (v := .agg #[.bool ng, .slice A9 n9 c9, .int .i64 (stripV F (d + 1) kk).2]) (by simp [results, Tryz.results28, go_sem, z0, z1, z2]) rfl ⟨A9, n9, c9, by rw [hfd.out _ hN.out], by rw [← hfd.out _ hN.out]; exact hkz _ _ _ hd9, hB9.trans hbz⟩
        · have hN := Lib.hid (hnig2.out.trans hc)
          go_wp2
          go_roundg (gk - 1)
          case measure => omega
          case rel =>
            refine ⟨j + 1, by go_num, by omega, fun t ht => ?_, hdX8, hX8, hV8, hr8, hB8⟩
            rcases Nat.lt_succ_iff_lt_or_eq.1 ht with h | rfl
            · exact hno.out t h
            · rw [hkk.out]; exact hN.out
    · have hρz : ρ = 0 := by omega
      have hX8 := hX6
      have hV8 := hV6
      have hr8 := hr6
      have hdX8 := hdX6
      have hdd8 := hdd6
      have hB8 := hB6
      subst hρz
      rw [show (decide ((0 : Int) < 0) && two) = false by simp] at hnig2
      have hdc : (one = true ∧ dshV one false 0 d = some d) ∨ (one = false ∧ dshV one false 0 d = none) := by
        unfold dshV
        cases one <;> simp
      replace hdc := Lib.hid hdc
      replace hz0 := Lib.hid hz0
      clear hρ4
      replace hnig2 := Lib.hid hnig2
      clear hrnd hfl hinn hsm hX6 hV6 hr6 hdX6 hdd6 hm6 hB6
      rcases isT_low9 hdd8 with ⟨rfl, hd0⟩ | ⟨hnd, b, off, y, rfl, hy, hyd, hbl⟩
      · obtain rfl : false = one := hz0.out hd0
        clear hd0
        rcases hdc.out with ⟨h, -⟩ | ⟨-, hc⟩
        · cases h
        · have hN := Lib.hid (hnig2.out.trans hc)
          go_wp2
          go_roundg (gk - 1)
          case measure => omega
          case rel =>
            refine ⟨j + 1, by go_num, by omega, fun t ht => ?_, hdX8, hX8, hV8, hr8, hB8⟩
            rcases Nat.lt_succ_iff_lt_or_eq.1 ht with h | rfl
            · exact hno.out t h
            · rw [hkk.out]; exact hN.out
      · have hnI : (0 : Int) < (nd : Int) := by omega
        rcases hdc.out with ⟨rfl, hc⟩ | ⟨rfl, hc⟩
        · have hN := Lib.hid (hnig2.out.trans hc)
          go_wp2_with fail
          refine (hst.out _ _ _ _ d hdd8 hD1.out).mono ?_
          rintro e w9 ⟨A9, n9, c9, rfl, hd9, hb9⟩
          have hB9 := hB8.trans (hb9.mono hB8.size)
          have hr9 := pBlk_st _ _ _ _ _ hr8 hb9
          go_wp2_with (first | ((with_reducible show wpList _ _ _ (Oper.mk _ (Op.store 51 _ _) _ _ _ _ :: _) _ _); refine wpList_store_keep _ rfl 51 _ _ rfl w.heap.size #[.bool ng, .slice A9 n9 c9, .int .i64 (stripV F d kk).2] #[.bool false, .slice none 0 0, .int .i64 0] 51 rfl rfl hr9 rdig_size rfl (by simp [Value.oneCell']) noword3 ?_; intro wz hz hbz hkz; obtain ⟨z0, z1, z2⟩ := cells3D hz))
          exact bodyPost_ret (v := .agg #[.bool ng, .slice A9 n9 c9, .int .i64 (stripV F d kk).2]) (by simp [results, Tryz.results28, go_sem, z0, z1, z2]) rfl ⟨A9, n9, c9, by rw [hfd.out _ hN.out], by rw [← hfd.out _ hN.out]; exact hkz _ _ _ hd9, hB9.trans hbz⟩
        · have hN := Lib.hid (hnig2.out.trans hc)
          go_wp2
          go_roundg (gk - 1)
          case measure => omega
          case rel =>
            refine ⟨j + 1, by go_num, by omega, fun t ht => ?_, hdX8, hX8, hV8, hr8, hB8⟩
            rcases Nat.lt_succ_iff_lt_or_eq.1 ht with h | rfl
            · exact hno.out t h
            · rw [hkk.out]; exact hN.out
end Go.Proofs.YtncfbleeidjflaaGreatDoor
namespace Go.Proofs.YtncfbleeidjflaaGreatDoor
open Go.RowKit Go.Cal
/-- A pattern of a number is that of its sign and magnitude. -/
theorem part_pat {id p : Int} (h1 : 1 ≤ id) (h2 : id < 15) (hp0 : 0 ≤ p) (hp1 : p < 2 ^ (fW id).toNat) (hc : classV id p = 1 ∨ classV id p = 2) : patV id (partN id p) (partK id p) = p ∧ isnB id p = true := by
  rcases id_cases h1 h2 with rfl | rfl | rfl | rfl | rfl | rfl | rfl | rfl | rfl | rfl | rfl | rfl | rfl | rfl <;>
    simp [classV, patV, isnB, partK, partN, fK, fW, fT, fN, fI] at hp1 hc ⊢ <;> (repeat' split at hc) <;> simp_all <;> omega
end Go.Proofs.YtncfbleeidjflaaGreatDoor
namespace Go.Proofs.YtncfbleeidjflaaGreatDoor
open Go.RowKit Go.Cal
theorem flQ_lt {m z : Nat} {e k : Int} (h : exC m e 0 1 (k + z) (k + z) < 0) : flQ m e k < 10 ^ z := by
  refine Classical.byContradiction fun hn => ?_
  have h1 : 10 ^ z * flB e k ≤ flA m e k := by
    have h2 : 10 ^ z ≤ flA m e k / flB e k := Nat.le_of_not_lt hn
    exact (Nat.le_div_iff_mul_le (flB_pos9 e k)).1 h2
  have h3 := exC_scaled m e 0 (10 ^ z) k k
  rw [show (0 : Int) - k = -k by omega, show k - 0 = k by omega] at h3
  have h4 : exP (10 ^ z) (k - e) k = 10 ^ z * flB e k := by
    unfold flB exP
    rw [Nat.one_mul, Nat.mul_assoc]
  rw [h4] at h3
  have h5 : ¬ exC m e 0 (10 ^ z) k k < 0 := by
    rw [← h3]
    show ¬ cmpV ((flA m e k : Nat) : Int) ((10 ^ z * flB e k : Nat) : Int) < 0
    rcases Nat.lt_or_eq_of_le h1 with h6 | h6
    · rw [cmpV_gt (by exact_mod_cast h6)]; decide
    · rw [h6, cmpV_eq rfl]; decide
  have h7 : exP (10 ^ z) k k * exQ e 0 ≤ exP m e 0 * exQ k k := by
    refine Nat.le_of_not_lt fun h8 => h5 ?_
    unfold exC
    rw [cmpV_lt (by exact_mod_cast h8)]
    decide
  have h9 := exC_ge (N := m) (t := e) (k := k + z)
  refine (h9.2 ?_) h
  rw [ten_P, ten_Q] at h7
  rw [ten_P, ten_Q, Nat.one_mul]
  have hs := pow_shift 10 z k
  refine Nat.le_of_mul_le_mul_right (c := 10 ^ (-k).toNat) ?_ (Nat.pow_pos (show 0 < 10 by decide))
  calc 10 ^ (k + z).toNat * exQ e 0 * 10 ^ (-k).toNat = (10 ^ (k + z).toNat * 10 ^ (-k).toNat) * exQ e 0 := by ac_rfl
    _ = (10 ^ z * 10 ^ k.toNat * 10 ^ (-(k + z)).toNat) * exQ e 0 := by rw [hs]
    _ = (10 ^ z * 10 ^ k.toNat * exQ e 0) * 10 ^ (-(k + z)).toNat := by ac_rfl
    _ ≤ (exP m e 0 * 10 ^ (-k).toNat) * 10 ^ (-(k + z)).toNat := Nat.mul_le_mul_right _ h7
    _ = exP m e 0 * 10 ^ (-(k + z)).toNat * 10 ^ (-k).toNat := by ac_rfl
theorem dec2_of {id p : Int} {ng : Bool} {K mv : Nat} {ev : Int} (h : Fin id p ng K mv ev) : Dec2 id p ng mv ev := fun w => by
  have := rdec7_yes id p h.h1 h.h2 h.p0 h.p1 w
  rw [h.cl, h.dec.1, h.dec.2.1, h.dec.2.2] at this
  exact this
theorem rndI_of {id p : Int} {ng : Bool} {K mv : Nat} {ev : Int} (h : Fin id p ng K mv ev) : RndI id p ng (limV id ng K) := fun W A n c k0 d k hd hk0 hk => by
  obtain ⟨i1, i2, i3, -⟩ := h.lims
  have hE : roundE id 2 = 0 := by unfold roundE; rw [if_neg (by have := h.h1; have := h.h2; omega), if_neg (by omega)]
  have hp := (part_pat h.h1 h.h2 h.p0 h.p1 (.inr h.cl)).1
  rw [h.ng, h.key] at hp
  refine (rround8_any id 2 hE (ng && decide (0 < d)) k k W hd hk0 hk hk).mono ?_
  rintro e w' ⟨rfl, hb⟩
  refine ⟨_, rfl, ?_, hb⟩
  rw [← round_iff (mode := 2) (by decide) i1 i2 i3, hp]
theorem shI_of {id p : Int} {ng : Bool} {K mv : Nat} {ev : Int} (h : Fin id p ng K mv ev) (F : Nat) : ShI (limV id ng K) mv ev (lgV mv ev) F (shortV (limV id ng K) mv ev F) := by
  obtain ⟨m0, mb, e1, e2⟩ := h.bnd
  refine ⟨fun k h1 h2 h3 => top_is m0 mb ⟨e1, e2⟩ (by omega) (by omega) h3, fun j hj => short_in h hj, fun j D hj hD => (short_found h hj hD F).symm, fun h1 j hj => ?_⟩
  have h2 : flQ mv ev (lgV mv ev - j) < 10 ^ (j + 1) := flQ_lt (by
    rw [show lgV mv ev - (j : Int) + ((j + 1 : Nat) : Int) = lgV mv ev + 1 by omega]
    exact h1)
  have h3 : (10 : Nat) ^ (j + 1) ≤ 10 ^ 21 := Nat.pow_le_pow_right (by decide) (by omega)
  have h4 : (10 : Nat) ^ 21 + 1 < 10 ^ 22 := by decide
  omega
theorem rshort11_any {id p : Int} {ng : Bool} {K mv : Nat} {ev : Int} (h : Fin id p ng K mv ev) (w : World) :
    Calls Tryz.prog 28 #[.int .i64 id, .int .u64 p] w fun e w' => ∃ A n c, e = .returned (.agg #[.bool ng, .slice A n c, .int .i64 (shortV (limV id ng K) mv ev 2000).2]) ∧ IsT w' (.slice A n c) 2 (shortV (limV id ng K) mv ev 2000).1 ∧ Below w.heap.size w w' := by
  obtain ⟨m0, mb, e1, e2⟩ := h.bnd
  exact rshort11_of (dec2_of h) (rndI_of h) (shI_of h 2000) m0 mb ⟨e1, e2⟩ (by decide) (by decide) w
theorem rfull11_any {id p : Int} {ng : Bool} {K mv : Nat} {ev : Int} (h : Fin id p ng K mv ev) (w : World) :
    Calls Tryz.prog 27 #[.int .i64 id, .int .u64 p] w fun e w' => ∃ A n c, e = .returned (.agg #[.bool ng, .slice A n c, .int .i64 (fullV mv ev 2000).2]) ∧ IsT w' (.slice A n c) 128 (fullV mv ev 2000).1 ∧ Below w.heap.size w w' := by
  obtain ⟨m0, mb, e1, e2⟩ := h.bnd
  obtain ⟨b1, b2⟩ := hasM_bnd (F := 2000) mb ⟨e1, e2⟩ (by decide)
  exact rfull11_of (dec2_of h) m0 mb ⟨e1, e2⟩ 2000 (by decide) b1 128 (by decide) (by decide) b2 w
end Go.Proofs.YtncfbleeidjflaaGreatDoor
