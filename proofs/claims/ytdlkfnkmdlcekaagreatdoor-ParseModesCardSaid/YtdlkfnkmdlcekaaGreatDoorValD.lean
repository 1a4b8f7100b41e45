/- Values: a pattern's sign, magnitude and class, Decode, Key, walked. Conditions: the variables that values read. -/
import Derived.Test.YtdlkfnkmdlcekaaGreatDoorFo27
import Derived.Test.YtdlkfnkmdlcekaaGreatDoorFo29
namespace Go.Proofs.YtdlkfnkmdlcekaaGreatDoor
open Go.RowKit Go.Cal
theorem and_pow (p : Int) (n : Nat) (hn : n ≤ 63) (h0 : 0 ≤ p) (h1 : p < 2 ^ (n + 1)) : bits BinOp.and IntKind.u64 p (2 ^ n) = if p < 2 ^ n then 0 else 2 ^ n := by
  obtain ⟨k, rfl⟩ := Int.eq_ofNat_of_zero_le h0
  have e1 : (2 : Int) ^ n = ((2 ^ n : Nat) : Int) := by push_cast; rfl
  have e2 : (2 : Int) ^ (n + 1) = ((2 ^ (n + 1) : Nat) : Int) := by push_cast; rfl
  rw [e2] at h1
  have h3 : 2 ^ n ≤ 2 ^ 63 := Nat.pow_le_pow_right (by decide) hn
  have h4 : 2 ^ (n + 1) ≤ 2 ^ 64 := Nat.pow_le_pow_right (by decide) (by omega)
  have h2 : k < 2 ^ (n + 1) := by exact_mod_cast h1
  have hb : k &&& 2 ^ n = if k < 2 ^ n then 0 else 2 ^ n := by
    apply Nat.eq_of_testBit_eq
    intro i
    rw [Nat.testBit_and, Nat.testBit_two_pow]
    by_cases hi : n = i
    · subst hi
      by_cases hk : k < 2 ^ n
      · rw [if_pos hk, Nat.testBit_lt_two_pow hk]; simp
      · rw [if_neg hk, Nat.testBit_two_pow]
        have : k.testBit n = true := by
          rw [Nat.testBit_eq_decide_div_mod_eq]
          have : k / 2 ^ n = 1 := by
            rw [Nat.pow_succ] at h2
            exact Nat.div_eq_of_lt_le (by omega) (by omega)
          rw [this]; rfl
        rw [this]; simp
    · split
      · simp [hi]
      · rw [Nat.testBit_two_pow]; simp [hi]
  rw [e1, bits_and_u64_nat _ _ (by omega) (by omega), hb]
  by_cases hk : k < 2 ^ n
  · rw [if_pos hk, if_pos (by exact_mod_cast hk)]; rfl
  · rw [if_neg hk, if_neg (fun h => hk (by exact_mod_cast h))]
set_option maxRecDepth 100000 in
set_option maxHeartbeats 1000000 in
theorem vparts_any (id p : Int) (h1 : 1 ≤ id) (h2 : id < 15) (hp0 : 0 ≤ p) (hp1 : p < 2 ^ (fW id).toNat) (w : World) :
    Calls Tryz.prog 38 #[.agg #[.int .i64 (fK id), .int .i64 (fW id), .int .i64 (fM id), .int .i64 (fB id), .int .u64 (fT id), .int .u64 (fI id), .int .u64 (fN id), .func (.func (numI (fK id))) #[] #[]], .int .u64 p] w fun e w' => e = .returned (.tuple #[.bool (partN id p), .int .u64 (partK id p)]) ∧ Below w.heap.size w w' := by
  obtain ⟨w1, w2, -⟩ := fo_wide h1 h2
  have hsg := Lib.hid fun w => fo_sgn id h1 h2 w
  have hpw : (2 : Int) ^ ((fW id).toNat - 1 + 1) = 2 ^ (fW id).toNat := by rw [show (fW id).toNat - 1 + 1 = (fW id).toNat by omega]
  have hand := and_pow p ((fW id).toNat - 1) (by omega) hp0 (by rw [hpw]; exact hp1)
  by_cases h4 : fK id = 4
  · have hS : sgV id = 0 := by unfold sgV; rw [if_pos h4]
    have hN : partN id p = false := by unfold partN; simp [h4]
    have hK : partK id p = p := by unfold partK; rw [if_pos hN]
    rw [hN, hK]
    rw [hS] at hsg
    have h0 : bits BinOp.and IntKind.u64 p 0 = 0 := by
      have : p < 18446744073709551616 := by
        have : (2 : Int) ^ (fW id).toNat ≤ 2 ^ 64 := by
          have h5 : 2 ^ (fW id).toNat ≤ 2 ^ 64 := Nat.pow_le_pow_right (by decide) w1
          exact_mod_cast h5
        omega
      obtain ⟨k, rfl⟩ := Int.eq_ofNat_of_zero_le hp0
      have := bits_and_u64_nat k 0 (by omega) (by decide)
      simpa using this
    clear hand hpw hN hK hS hp1
    replace h4 := Lib.hid h4
    go_enter Tryz.func38, Tryz.ntmps38
    go_wp2_with fail
    refine (hsg.out _).mono ?_
    rintro e u1 ⟨rfl, hb⟩
    go_wp2
    go_ret2
    exact ⟨rfl, ((Below.refl _ _).alloc (Nat.le_refl _) _).trans (hb.mono (by simp))⟩
  · have hS : sgV id = 2 ^ ((fW id).toNat - 1) := by unfold sgV; rw [if_neg h4]
    rw [hS] at hsg
    by_cases hlt : p < 2 ^ ((fW id).toNat - 1)
    · rw [if_pos hlt] at hand
      have hN : partN id p = false := by unfold partN; simp; intro; omega
      have hK : partK id p = p := by unfold partK; rw [if_pos hN]
      rw [hN, hK]
      clear hpw hN hK hS hp1 hlt
      replace h4 := Lib.hid h4
      go_enter Tryz.func38, Tryz.ntmps38
      go_wp2_with fail
      refine (hsg.out _).mono ?_
      rintro e u1 ⟨rfl, hb⟩
      go_wp2
      go_ret2
      exact ⟨rfl, ((Below.refl _ _).alloc (Nat.le_refl _) _).trans (hb.mono (by simp))⟩
    · rw [if_neg hlt] at hand
      have hN : partN id p = true := by unfold partN; simp [h4]; omega
      have hpos := pow_pos ((fW id).toNat - 1)
      have hne : ((2 : Int) ^ ((fW id).toNat - 1) == 0) = false := by simp; omega
      by_cases h2k : fK id = 2
      · have hK : partK id p = p - 2 ^ ((fW id).toNat - 1) := by unfold partK; rw [if_neg (by rw [hN]; decide), if_pos h2k]
        have hhm := half_mod p ((fW id).toNat - 1) hp0 (by rw [hpw]; exact hp1) (by omega)
        have hmod : p % 2 ^ ((fW id).toNat - 1) = p - 2 ^ ((fW id).toNat - 1) := by
          rw [← Int.sub_emod_right]
          exact Int.emod_eq_of_lt (by omega) (by rw [← hpw, Int.pow_succ] at hp1; omega)
        rw [hmod] at hhm
        rw [hN, hK]
        have k2 : (fK id == 2) = true := by simp [h2k]
        replace hhm := Lib.hid hhm
        clear hpw hN hK hS hp1 hlt hmod hpos
        replace h4 := Lib.hid h4
        replace h2k := Lib.hid h2k
        go_enter Tryz.func38, Tryz.ntmps38
        go_wp2_with fail
        refine (hsg.out _).mono ?_
        rintro e u1 ⟨rfl, hb⟩
        have hB : Below w.heap.size w u1 := ((Below.refl _ _).alloc (Nat.le_refl _) _).trans (hb.mono (by simp))
        have hp := pBlk_st _ _ _ _ _ (pBlk_made w #[.int .i64 (fK id), .int .i64 (fW id), .int .i64 (fM id), .int .i64 (fB id), .int .u64 (fT id), .int .u64 (fI id), .int .u64 (fN id), .func (.func (numI (fK id))) #[] #[]] 78) hb
        obtain ⟨r0, r1, r2, r3, r4, r5, r6, r7⟩ := cells8 hp
        go_wp2_with fail
        refine (hsg.out _).mono ?_
        rintro e u2 ⟨rfl, hb2⟩
        go_wp2
        rw [hhm.out]
        go_ret2
        exact ⟨rfl, hB.trans (hb2.mono hB.size)⟩
      · have hK : partK id p = (-p) % 2 ^ (fW id).toNat := by unfold partK; rw [if_neg (by rw [hN]; decide), if_neg h2k]
        have hpa := Lib.hid (pat_and p (fW id).toNat w1)
        have hmk := Lib.hid (fun w => fo_mask (fK id) (fW id) (fM id) (fB id) (fT id) (fI id) (fN id) w (by omega) (by omega))
        rw [hN, hK]
        have k2 : (fK id == 2) = false := by simp [h2k]
        clear hpw hN hK hS hp1 hlt hpos
        replace h4 := Lib.hid h4
        replace h2k := Lib.hid h2k
        go_enter Tryz.func38, Tryz.ntmps38
        go_wp2_with fail
        refine (hsg.out _).mono ?_
        rintro e u1 ⟨rfl, hb⟩
        have hB : Below w.heap.size w u1 := ((Below.refl _ _).alloc (Nat.le_refl _) _).trans (hb.mono (by simp))
        have hp := pBlk_st _ _ _ _ _ (pBlk_made w #[.int .i64 (fK id), .int .i64 (fW id), .int .i64 (fM id), .int .i64 (fB id), .int .u64 (fT id), .int .u64 (fI id), .int .u64 (fN id), .func (.func (numI (fK id))) #[] #[]] 78) hb
        obtain ⟨r0, r1, r2, r3, r4, r5, r6, r7⟩ := cells8 hp
        go_wp2_with fail
        refine (hmk.out _).mono ?_
        rintro e u2 ⟨rfl, hb2⟩
        go_wp2
        rw [hpa.out]
        go_ret2
        exact ⟨rfl, hB.trans (hb2.mono hB.size)⟩
end Go.Proofs.YtdlkfnkmdlcekaaGreatDoor
