/- Parse: what is wrong is thrown; words, walked. Conditions: none. -/
/- Values: a pattern's sign, magnitude and class, Decode, Key, walked. Conditions: the variables that values read. -/
/- Values: a pattern's class, Decode, walked. Conditions: the variables that values read. -/
/- Values: Decode, Key, walked. Conditions: the variables that values read. -/
/- Values: Key, walked. Conditions: the variables that values read. -/
import Derived.Test.YtehpneojiinmdaaGreatDoorTu19
import Derived.Test.YtehpneojiinmdaaGreatDoorTu15
namespace Go.Proofs.YtehpneojiinmdaaGreatDoor
open Go.RowKit Go.Cal
theorem qmust_yes (a : Int) (w : World) : Calls Tryz.prog 88 #[.int .i64 a, .int .i64 0] w fun e w' => e = .returned (.tuple #[]) ∧ w = w' := by
  go_enter Tryz.func88, Tryz.ntmps88
  go_wp2
  go_end0
  exact ⟨rfl, rfl⟩
theorem qmust_no (a b : Int) (hb : b ≠ 0) (w : World) : Calls Tryz.prog 88 #[.int .i64 a, .int .i64 b] w fun e w' => e = .panicked [{ v := .iface 141 (.agg #[.int .i64 a, .int .i64 b]), recovered := false }] ∧ w = w' := by
  have hb' : (b != 0) = true := by simp [hb]
  go_enter Tryz.func88, Tryz.ntmps88
  go_wp2
  exact ⟨rfl, rfl, rfl⟩
theorem qhas_yes (a : Int) (w : World) : Calls Tryz.prog 140 #[.bool true, .int .i64 a] w fun e w' => e = .returned (.tuple #[]) ∧ w = w' := by
  go_enter Tryz.func140, Tryz.ntmps140
  go_wp2
  go_end0
  exact ⟨rfl, rfl⟩
theorem qhas_no (a : Int) (w : World) : Calls Tryz.prog 140 #[.bool false, .int .i64 a] w fun e w' => e = .panicked [{ v := .iface 141 (.agg #[.int .i64 a, .int .i64 5]), recovered := false }] ∧ w = w' := by
  go_enter Tryz.func140, Tryz.ntmps140
  go_wp2_with fail
  refine (qmust_no a 5 (by decide) _).mono ?_
  rintro e w1 ⟨rfl, rfl⟩
  go_wp2
  exact ⟨rfl, rfl, rfl⟩
theorem fo_sgn (id : Int) (h1 : 1 ≤ id) (h2 : id < 15) (w : World) : Calls Tryz.prog 92 #[.agg #[.int .i64 (fK id), .int .i64 (fW id), .int .i64 (fM id), .int .i64 (fB id), .int .u64 (fT id), .int .u64 (fI id), .int .u64 (fN id)]] w fun e w' => e = .returned (.int .u64 (sgV id)) ∧ Below w.heap.size w w' := by
  obtain ⟨w1, w2, -⟩ := fo_wide h1 h2
  unfold sgV
  by_cases h4 : fK id = 4
  · rw [if_pos h4, h4]
    exact fo_nosign _ _ _ _ _ _ w
  · rw [if_neg h4]
    exact fo_sign _ _ _ _ _ _ _ w (by omega) (by omega) h4
/-- Is there a word in a form; its pattern. -/
def wordB (id kd : Int) (neg : Bool) : Bool := if kd = 2 then fI id != 0 else if kd = 3 then (fN id != 0) && !(fK id == 1) else (fK id == 1) && !neg
def wordP (id kd : Int) (neg : Bool) : Int := if kd = 2 then (if neg = true then fI id + 2 ^ ((fW id).toNat - 1) else fI id) else fN id
theorem word_or {id : Int} (h1 : 1 ≤ id) (h2 : id < 15) (neg : Bool) (h : (fI id != 0) = true) : bits BinOp.or IntKind.u64 (fI id) (if neg = true then sgV id else 0) = wordP id 2 neg := by
  rcases id_cases h1 h2 with rfl | rfl | rfl | rfl | rfl | rfl | rfl | rfl | rfl | rfl | rfl | rfl | rfl | rfl <;> cases neg <;> first | decide +kernel | (exact absurd h (by decide))
set_option maxRecDepth 100000 in
set_option maxHeartbeats 4000000 in
theorem word_yes (id : Int) (h1 : 1 ≤ id) (h2 : id < 15) (kd : Int) (hk : kd = 2 ∨ kd = 3 ∨ kd = 4) (neg cut : Bool) (A : Option Addr) (n c : Nat) (k big : Int) (w : World) (hw : wordB id kd neg = true) :
    Calls Tryz.prog 90 #[.agg #[.int .i64 (fK id), .int .i64 (fW id), .int .i64 (fM id), .int .i64 (fB id), .int .u64 (fT id), .int .u64 (fI id), .int .u64 (fN id)], .agg #[.int .i64 kd, .bool neg, .slice A n c, .int .i64 k, .int .i64 big, .bool cut]] w fun e w' => e = .returned (.int .u64 (wordP id kd neg)) ∧ Below w.heap.size w w' := by
  have hsg := Lib.hid fun w => fo_sgn id h1 h2 w
  have hwo := word_or h1 h2 neg
  have hb0 : Below w.heap.size w ((w.alloc (.cells #[.int .i64 (fK id), .int .i64 (fW id), .int .i64 (fM id), .int .i64 (fB id), .int .u64 (fT id), .int .u64 (fI id), .int .u64 (fN id)] 25)).alloc (.cells #[.int .i64 kd, .bool neg, .slice A n c, .int .i64 k, .int .i64 big, .bool cut] 145)) := ((Below.refl _ _).alloc (Nat.le_refl _) _).alloc (by simp) _
  rcases hk with rfl | rfl | rfl
  · have hi : (fI id != 0) = true := by unfold wordB at hw; rw [if_pos rfl] at hw; exact hw
    replace hwo := hwo hi
    clear hw
    cases neg with
    | true =>
      rw [if_pos rfl] at hwo
      replace hwo := Lib.hid hwo
      go_enter Tryz.func90, Tryz.ntmps90
      go_wp2_with fail
      refine (hsg.out _).mono ?_
      rintro e u1 ⟨rfl, hb1⟩
      obtain ⟨hc1, hf1⟩ := bcell hb1
      have hz := hb1.size
      simp at hz
      have hB : Below w.heap.size w u1 := hb0.trans (hb1.mono (by simp; omega))
      go_wp2_with fail
      refine (qhas_yes 1 _).mono ?_
      rintro e u2 ⟨rfl, rfl⟩
      go_wp2
      rw [hwo.out]
      go_ret
      exact ⟨rfl, hB⟩
    | false =>
      rw [if_neg (by decide)] at hwo
      replace hwo := Lib.hid hwo
      go_enter Tryz.func90, Tryz.ntmps90
      have hB := hb0
      go_wp2_with fail
      refine (qhas_yes 0 _).mono ?_
      rintro e u2 ⟨rfl, rfl⟩
      go_wp2
      rw [hwo.out]
      go_ret
      exact ⟨rfl, hB⟩
  · have hP : wordP id 3 neg = fN id := by unfold wordP; rw [if_neg (by decide)]
    rw [hP]
    have hi : (fN id != 0) = true ∧ (fK id == 1) = false := by
      unfold wordB at hw
      rw [if_neg (by decide), if_pos rfl] at hw
      simpa using hw
    obtain ⟨hi1, hi2⟩ := hi
    clear hw hwo hP
    cases neg with
    | true =>
      skip
      go_enter Tryz.func90, Tryz.ntmps90
      go_wp2_with fail
      refine (hsg.out _).mono ?_
      rintro e u1 ⟨rfl, hb1⟩
      obtain ⟨hc1, hf1⟩ := bcell hb1
      have hz := hb1.size
      simp at hz
      have hB : Below w.heap.size w u1 := hb0.trans (hb1.mono (by simp; omega))
      go_wp2_with fail
      refine (qhas_yes 1 _).mono ?_
      rintro e u2 ⟨rfl, rfl⟩
      go_wp2
      go_ret
      exact ⟨rfl, hB⟩
    | false =>
      skip
      go_enter Tryz.func90, Tryz.ntmps90
      have hB := hb0
      go_wp2_with fail
      refine (qhas_yes 0 _).mono ?_
      rintro e u2 ⟨rfl, rfl⟩
      go_wp2
      go_ret
      exact ⟨rfl, hB⟩
  · have hP : wordP id 4 neg = fN id := by unfold wordP; rw [if_neg (by decide)]
    rw [hP]
    have hi : (fK id == 1) = true ∧ neg = false := by
      unfold wordB at hw
      rw [if_neg (by decide), if_neg (by decide)] at hw
      simpa using hw
    obtain ⟨hi1, rfl⟩ := hi
    clear hw hwo hP
    focus
      skip
      go_enter Tryz.func90, Tryz.ntmps90
      have hB := hb0
      go_wp2_with fail
      refine (qhas_yes 0 _).mono ?_
      rintro e u2 ⟨rfl, rfl⟩
      go_wp2
      go_ret
      exact ⟨rfl, hB⟩
set_option maxRecDepth 100000 in
set_option maxHeartbeats 4000000 in
theorem word_no (id : Int) (h1 : 1 ≤ id) (h2 : id < 15) (kd : Int) (hk : kd = 2 ∨ kd = 3 ∨ kd = 4) (neg cut : Bool) (A : Option Addr) (n c : Nat) (k big : Int) (w : World) (hw : wordB id kd neg = false) :
    Calls Tryz.prog 90 #[.agg #[.int .i64 (fK id), .int .i64 (fW id), .int .i64 (fM id), .int .i64 (fB id), .int .u64 (fT id), .int .u64 (fI id), .int .u64 (fN id)], .agg #[.int .i64 kd, .bool neg, .slice A n c, .int .i64 k, .int .i64 big, .bool cut]] w fun e w' => e = .panicked [{ v := .iface 141 (.agg #[.int .i64 (if neg = true then 1 else 0), .int .i64 5]), recovered := false }] ∧ Below w.heap.size w w' := by
  have hsg := Lib.hid fun w => fo_sgn id h1 h2 w
  have hb0 : Below w.heap.size w ((w.alloc (.cells #[.int .i64 (fK id), .int .i64 (fW id), .int .i64 (fM id), .int .i64 (fB id), .int .u64 (fT id), .int .u64 (fI id), .int .u64 (fN id)] 25)).alloc (.cells #[.int .i64 kd, .bool neg, .slice A n c, .int .i64 k, .int .i64 big, .bool cut] 145)) := ((Below.refl _ _).alloc (Nat.le_refl _) _).alloc (by simp) _
  have hcs : (kd = 2 ∧ (fI id != 0) = false) ∨ (kd = 3 ∧ (fN id != 0) = false) ∨ (kd = 3 ∧ (fN id != 0) = true ∧ (fK id == 1) = true) ∨ (kd = 4 ∧ (fK id == 1) = false) ∨ (kd = 4 ∧ (fK id == 1) = true ∧ neg = true) := by
    unfold wordB at hw
    rcases hk with rfl | rfl | rfl
    · rw [if_pos rfl] at hw
      exact .inl ⟨rfl, hw⟩
    · rw [if_neg (by decide), if_pos rfl] at hw
      cases h3 : (fN id != 0)
      · exact .inr (.inl ⟨rfl, rfl⟩)
      · rw [h3] at hw
        exact .inr (.inr (.inl ⟨rfl, rfl, by simpa using hw⟩))
    · rw [if_neg (by decide), if_neg (by decide)] at hw
      cases h3 : (fK id == 1)
      · exact .inr (.inr (.inr (.inl ⟨rfl, rfl⟩)))
      · rw [h3] at hw
        exact .inr (.inr (.inr (.inr ⟨rfl, rfl, by simpa using hw⟩)))
  clear hk hw
  cases neg with
  | true =>
    rcases hcs with ⟨rfl, k1⟩ | ⟨rfl, k1⟩ | ⟨rfl, k1, k2⟩ | ⟨rfl, k1⟩ | ⟨rfl, k1, -⟩
    all_goals
      skip
      go_enter Tryz.func90, Tryz.ntmps90
      go_wp2_with fail
      refine (hsg.out _).mono ?_
      rintro e u1 ⟨rfl, hb1⟩
      obtain ⟨hc1, hf1⟩ := bcell hb1
      have hz := hb1.size
      simp at hz
      have hB : Below w.heap.size w u1 := hb0.trans (hb1.mono (by simp; omega))
      go_wp2_with fail
      refine (qhas_no 1 _).mono ?_
      rintro e u2 ⟨rfl, rfl⟩
      go_wp2
      exact ⟨rfl, rfl, hB⟩
  | false =>
    rcases hcs with ⟨rfl, k1⟩ | ⟨rfl, k1⟩ | ⟨rfl, k1, k2⟩ | ⟨rfl, k1⟩ | ⟨rfl, k1, k3⟩
    case inr.inr.inr.inr => exact absurd k3 (by decide)
    all_goals
      skip
      go_enter Tryz.func90, Tryz.ntmps90
      have hB := hb0
      go_wp2_with fail
      refine (qhas_no 0 _).mono ?_
      rintro e u2 ⟨rfl, rfl⟩
      go_wp2
      exact ⟨rfl, rfl, hB⟩
end Go.Proofs.YtehpneojiinmdaaGreatDoor
namespace Go.Proofs.YtehpneojiinmdaaGreatDoor
open Go.RowKit Go.Cal
theorem and_pow (p : Int) (n : Nat) (hn : n ≤ 63) (h0 : 0 ≤ p) (h1 : p < 2 ^ (n + 1)) : bits BinOp.and IntKind.u64 p (2 ^ n) = if p < 2 ^ n then 0 else 2 ^ n := by
  obtain ⟨k, rfl⟩ := Int.eq_ofNat_of_zero_le h0
  have e1 : (2 : Int) ^ n = ((2 ^ n : Nat) : Int) := by push_cast; rfl
  have e2 : (2 : Int) ^ (n + 1) = ((2 ^ (n + 1) : Nat) : Int) := by push_cast; rfl
  rw [e2] at h1
  have h3 : 2 ^ n ≤ 2 ^ 63 := Nat.pow_le_pow_right (by decide) hn
  have h4 : 2 ^ (n + 1) ≤ 2 ^ 64 := Nat.pow_le_pow_right (by decide) (by omega)
  have h2 : k < 2 ^ (n + 1) := by exact_mod_cast h1
  have hb : k &&& 2 ^ n = if k < 2 ^ n then 0 else 2 ^ n := by
    apply Nat.eq_of_testBit_eq
    intro i
    rw [Nat.testBit_and, Nat.testBit_two_pow]
    by_cases hi : n = i
    · subst hi
      by_cases hk : k < 2 ^ n
      · rw [if_pos hk, Nat.testBit_lt_two_pow hk]; simp
      · rw [if_neg hk, Nat.testBit_two_pow]
        have : k.testBit n = true := by
          rw [Nat.testBit_eq_decide_div_mod_eq]
          have : k / 2 ^ n = 1 := by
            rw [Nat.pow_succ] at h2
            exact Nat.div_eq_of_lt_le (by omega) (by omega)
          rw [this]; rfl
        rw [this]; simp
    · split
      · simp [hi]
      · rw [Nat.testBit_two_pow]; simp [hi]
  rw [e1, bits_and_u64_nat _ _ (by omega) (by omega), hb]
  by_cases hk : k < 2 ^ n
  · rw [if_pos hk, if_pos (by exact_mod_cast hk)]; rfl
  · rw [if_neg hk, if_neg (fun h => hk (by exact_mod_cast h))]
set_option maxRecDepth 100000 in
set_option maxHeartbeats 1000000 in
theorem vparts_any (id p : Int) (h1 : 1 ≤ id) (h2 : id < 15) (hp0 : 0 ≤ p) (hp1 : p < 2 ^ (fW id).toNat) (w : World) :
    Calls Tryz.prog 46 #[.agg #[.int .i64 (fK id), .int .i64 (fW id), .int .i64 (fM id), .int .i64 (fB id), .int .u64 (fT id), .int .u64 (fI id), .int .u64 (fN id), .func (.func (numI (fK id))) #[] #[]], .int .u64 p] w fun e w' => e = .returned (.tuple #[.bool (partN id p), .int .u64 (partK id p)]) ∧ Below w.heap.size w w' := by
  obtain ⟨w1, w2, -⟩ := fo_wide h1 h2
  have hsg := Lib.hid fun w => fo_sgn id h1 h2 w
  have hpw : (2 : Int) ^ ((fW id).toNat - 1 + 1) = 2 ^ (fW id).toNat := by rw [show (fW id).toNat - 1 + 1 = (fW id).toNat by omega]
  have hand := and_pow p ((fW id).toNat - 1) (by omega) hp0 (by rw [hpw]; exact hp1)
  by_cases h4 : fK id = 4
  · have hS : sgV id = 0 := by unfold sgV; rw [if_pos h4]
    have hN : partN id p = false := by unfold partN; simp [h4]
    have hK : partK id p = p := by unfold partK; rw [if_pos hN]
    rw [hN, hK]
    rw [hS] at hsg
    have h0 : bits BinOp.and IntKind.u64 p 0 = 0 := by
      have : p < 18446744073709551616 := by
        have : (2 : Int) ^ (fW id).toNat ≤ 2 ^ 64 := by
          have h5 : 2 ^ (fW id).toNat ≤ 2 ^ 64 := Nat.pow_le_pow_right (by decide) w1
          exact_mod_cast h5
        omega
      obtain ⟨k, rfl⟩ := Int.eq_ofNat_of_zero_le hp0
      have := bits_and_u64_nat k 0 (by omega) (by decide)
      simpa using this
    clear hand hpw hN hK hS hp1
    replace h4 := Lib.hid h4
    go_enter Tryz.func46, Tryz.ntmps46
    go_wp2_with fail
    refine (hsg.out _).mono ?_
    rintro e u1 ⟨rfl, hb⟩
    go_wp2
    go_ret2
    exact ⟨rfl, ((Below.refl _ _).alloc (Nat.le_refl _) _).trans (hb.mono (by simp))⟩
  · have hS : sgV id = 2 ^ ((fW id).toNat - 1) := by unfold sgV; rw [if_neg h4]
    rw [hS] at hsg
    by_cases hlt : p < 2 ^ ((fW id).toNat - 1)
    · rw [if_pos hlt] at hand
      have hN : partN id p = false := by unfold partN; simp; intro; omega
      have hK : partK id p = p := by unfold partK; rw [if_pos hN]
      rw [hN, hK]
      clear hpw hN hK hS hp1 hlt
      replace h4 := Lib.hid h4
      go_enter Tryz.func46, Tryz.ntmps46
      go_wp2_with fail
      refine (hsg.out _).mono ?_
      rintro e u1 ⟨rfl, hb⟩
      go_wp2
      go_ret2
      exact ⟨rfl, ((Below.refl _ _).alloc (Nat.le_refl _) _).trans (hb.mono (by simp))⟩
    · rw [if_neg hlt] at hand
      have hN : partN id p = true := by unfold partN; simp [h4]; omega
      have hpos := pow_pos ((fW id).toNat - 1)
      have hne : ((2 : Int) ^ ((fW id).toNat - 1) == 0) = false := by simp; omega
      by_cases h2k : fK id = 2
      · have hK : partK id p = p - 2 ^ ((fW id).toNat - 1) := by unfold partK; rw [if_neg (by rw [hN]; decide), if_pos h2k]
        have hhm := half_mod p ((fW id).toNat - 1) hp0 (by rw [hpw]; exact hp1) (by omega)
        have hmod : p % 2 ^ ((fW id).toNat - 1) = p - 2 ^ ((fW id).toNat - 1) := by
          rw [← Int.sub_emod_right]
          exact Int.emod_eq_of_lt (by omega) (by rw [← hpw, Int.pow_succ] at hp1; omega)
        rw [hmod] at hhm
        rw [hN, hK]
        have k2 : (fK id == 2) = true := by simp [h2k]
        replace hhm := Lib.hid hhm
        clear hpw hN hK hS hp1 hlt hmod hpos
        replace h4 := Lib.hid h4
        replace h2k := Lib.hid h2k
        go_enter Tryz.func46, Tryz.ntmps46
        go_wp2_with fail
        refine (hsg.out _).mono ?_
        rintro e u1 ⟨rfl, hb⟩
        have hB : Below w.heap.size w u1 := ((Below.refl _ _).alloc (Nat.le_refl _) _).trans (hb.mono (by simp))
        have hp := pBlk_st _ _ _ _ _ (pBlk_made w #[.int .i64 (fK id), .int .i64 (fW id), .int .i64 (fM id), .int .i64 (fB id), .int .u64 (fT id), .int .u64 (fI id), .int .u64 (fN id), .func (.func (numI (fK id))) #[] #[]] 92) hb
        obtain ⟨r0, r1, r2, r3, r4, r5, r6, r7⟩ := cells8 hp
        go_wp2_with fail
        refine (hsg.out _).mono ?_
        rintro e u2 ⟨rfl, hb2⟩
        go_wp2
        rw [hhm.out]
        go_ret2
        exact ⟨rfl, hB.trans (hb2.mono hB.size)⟩
      · have hK : partK id p = (-p) % 2 ^ (fW id).toNat := by unfold partK; rw [if_neg (by rw [hN]; decide), if_neg h2k]
        have hpa := Lib.hid (pat_and p (fW id).toNat w1)
        have hmk := Lib.hid (fun w => fo_mask (fK id) (fW id) (fM id) (fB id) (fT id) (fI id) (fN id) w (by omega) (by omega))
        rw [hN, hK]
        have k2 : (fK id == 2) = false := by simp [h2k]
        clear hpw hN hK hS hp1 hlt hpos
        replace h4 := Lib.hid h4
        replace h2k := Lib.hid h2k
        go_enter Tryz.func46, Tryz.ntmps46
        go_wp2_with fail
        refine (hsg.out _).mono ?_
        rintro e u1 ⟨rfl, hb⟩
        have hB : Below w.heap.size w u1 := ((Below.refl _ _).alloc (Nat.le_refl _) _).trans (hb.mono (by simp))
        have hp := pBlk_st _ _ _ _ _ (pBlk_made w #[.int .i64 (fK id), .int .i64 (fW id), .int .i64 (fM id), .int .i64 (fB id), .int .u64 (fT id), .int .u64 (fI id), .int .u64 (fN id), .func (.func (numI (fK id))) #[] #[]] 92) hb
        obtain ⟨r0, r1, r2, r3, r4, r5, r6, r7⟩ := cells8 hp
        go_wp2_with fail
        refine (hmk.out _).mono ?_
        rintro e u2 ⟨rfl, hb2⟩
        go_wp2
        rw [hpa.out]
        go_ret2
        exact ⟨rfl, hB.trans (hb2.mono hB.size)⟩
end Go.Proofs.YtehpneojiinmdaaGreatDoor
namespace Go.Proofs.YtehpneojiinmdaaGreatDoor
open Go.RowKit Go.Cal
theorem class_cases (id p : Int) : 
    ((fK id == 2) = true ∧ (fK id != 2) = false ∧ (partK id p == fI id) = true ∧ (fI id != 0) = true ∧ classV id p = 3) ∨
    ((fK id == 2) = true ∧ (fK id != 2) = false ∧ (fK id != 4) = true ∧ ((partK id p == fI id) = false ∨ (partK id p == fI id) = true ∧ (fI id != 0) = false) ∧
      ((fT id < partK id p ∧ classV id p = 4) ∨ (¬ fT id < partK id p ∧ (partK id p == 0) = true ∧ classV id p = 1) ∨ (¬ fT id < partK id p ∧ (partK id p == 0) = false ∧ classV id p = 2))) ∨
    ((fK id == 2) = false ∧ (fK id != 2) = true ∧
      (((fN id != 0) = true ∧ (p == fN id) = true ∧ classV id p = 4) ∨
       (((fN id != 0) = false ∨ (fN id != 0) = true ∧ (p == fN id) = false) ∧
         (((partK id p == 0) = true ∧ (fK id != 4) = true ∧ classV id p = 1) ∨ ((partK id p == 0) = true ∧ (fK id != 4) = false ∧ classV id p = 2) ∨ ((partK id p == 0) = false ∧ classV id p = 2))))) := by
  unfold classV
  generalize partK id p = key
  by_cases hk : fK id = 2
  · by_cases hi : key = fI id ∧ fI id ≠ 0
    · left; rw [if_pos ⟨hk, hi⟩]; simp [hk, hi.1, hi.2]
    · right; left
      rw [if_neg (fun h => hi ⟨h.2.1, h.2.2⟩)]
      refine ⟨by simp [hk], by simp [hk], by simp [hk], ?_, ?_⟩
      · by_cases hx : key = fI id
        · right; refine ⟨by simp [hx], ?_⟩; simp; exact Classical.byContradiction fun h => hi ⟨hx, h⟩
        · left; simp [hx]
      · by_cases ht : fT id < key
        · left; rw [if_pos (.inl ⟨hk, ht⟩)]; exact ⟨ht, rfl⟩
        · right
          rw [if_neg (fun h => by rcases h with h | h; exact ht h.2; exact h.1 hk)]
          by_cases h0 : key = 0
          · left; rw [if_pos ⟨h0, by omega⟩]; exact ⟨ht, by simp [h0], rfl⟩
          · right; rw [if_neg (fun h => h0 h.1)]; exact ⟨ht, by simp [h0], rfl⟩
  · right; right
    refine ⟨by simp [hk], by simp [hk], ?_⟩
    rw [if_neg (fun h => hk h.1)]
    by_cases hn : fN id ≠ 0 ∧ p = fN id
    · left; rw [if_pos (.inr ⟨hk, hn⟩)]; exact ⟨by simp [hn.1], by simp [hn.2], rfl⟩
    · right
      rw [if_neg (fun h => by rcases h with h | h; exact hk h.1; exact hn h.2)]
      refine ⟨?_, ?_⟩
      · by_cases h0 : fN id = 0
        · left; simp [h0]
        · right; refine ⟨by simp [h0], ?_⟩; simp; exact fun h => hn ⟨h0, h⟩
      · by_cases h0 : key = 0
        · by_cases h4 : fK id = 4
          · right; left; rw [if_neg (fun h => h.2 h4)]; exact ⟨by simp [h0], by simp [h4], rfl⟩
          · left; rw [if_pos ⟨h0, h4⟩]; exact ⟨by simp [h0], by simp [h4], rfl⟩
        · right; right; rw [if_neg (fun h => h0 h.1)]; exact ⟨by simp [h0], rfl⟩
set_option maxRecDepth 100000 in
set_option maxHeartbeats 1000000 in
theorem vclass_any (id p : Int) (w : World) :
    Calls Tryz.prog 47 #[.agg #[.int .i64 (fK id), .int .i64 (fW id), .int .i64 (fM id), .int .i64 (fB id), .int .u64 (fT id), .int .u64 (fI id), .int .u64 (fN id), .func (.func (numI (fK id))) #[] #[]], .int .u64 p, .int .u64 (partK id p)] w fun e w' => e = .returned (.int .i64 (classV id p)) ∧ Below w.heap.size w w' := by
  have hc := class_cases id p
  generalize partK id p = key at hc ⊢
  rcases hc with ⟨k1, k2, k3, k4, hV⟩ | ⟨k1, k2, k3, k4, hV⟩ | ⟨k1, k2, hV⟩
  · rw [hV]
    go_enter Tryz.func47, Tryz.ntmps47
    go_wp2
    go_ret
    exact ⟨rfl, (Below.refl _ _).alloc (Nat.le_refl _) _⟩
  · rcases k4 with k4 | ⟨k4, k5⟩
    all_goals
      rcases hV with ⟨k6, hV⟩ | ⟨k6, k7, hV⟩ | ⟨k6, k7, hV⟩
      all_goals
        rw [hV]
        go_enter Tryz.func47, Tryz.ntmps47
        go_wp2
        go_ret
        exact ⟨rfl, (Below.refl _ _).alloc (Nat.le_refl _) _⟩
  · rcases hV with ⟨k3, k4, hV⟩ | ⟨k3 | ⟨k3, k4⟩, ⟨k5, k6, hV⟩ | ⟨k5, k6, hV⟩ | ⟨k5, hV⟩⟩
    all_goals
      rw [hV]
      go_enter Tryz.func47, Tryz.ntmps47
      go_wp2
      go_ret
      exact ⟨rfl, (Below.refl _ _).alloc (Nat.le_refl _) _⟩
/-- What Decode tells. -/
def decN (id p : Int) : Bool := if classV id p = 4 then false else partN id p
def decM (id p : Int) : Nat := if classV id p = 2 then (magV id 0 (partK id p).toNat).1 else 0
def decE (id p : Int) : Int := if classV id p = 2 then (magV id 0 (partK id p).toNat).2 else 0
theorem partK_nonneg {id p : Int} (hp0 : 0 ≤ p) : 0 ≤ partK id p := by
  unfold partK partN
  split
  · exact hp0
  · rename_i h
    split
    · simp at h; omega
    · exact Int.emod_nonneg _ (by have := pow_pos (fW id).toNat; omega)
/-- A number's magnitude is one. -/
theorem class_two {id p : Int} (h1 : 1 ≤ id) (h2 : id < 15) (hp0 : 0 ≤ p) (hp1 : p < 2 ^ (fW id).toNat) (hc : classV id p = 2) : partK id p ≤ fitM id ∧ partK id p ≤ mostV id (partN id p) ∧ (fK id ≠ 4 → partK id p ≠ 0) ∧ (partN id p = true → fK id ≠ 4) := by
  rcases id_cases h1 h2 with rfl | rfl | rfl | rfl | rfl | rfl | rfl | rfl | rfl | rfl | rfl | rfl | rfl | rfl <;>
    simp [classV, partK, partN, fitM, mostV, fK, fW, fT, fN, fI] at hp1 hc ⊢ <;> (repeat' split at hc) <;> simp_all <;> omega
end Go.Proofs.YtehpneojiinmdaaGreatDoor
namespace Go.Proofs.YtehpneojiinmdaaGreatDoor
open Go.RowKit Go.Cal
theorem value_size : (Tryz.prog.info? 31).map (·.size) = some 4 := by kernel_rfl
set_option maxRecDepth 100000 in
set_option maxHeartbeats 1000000 in
theorem vdec_no (id p : Int) (hp0 : 0 ≤ p) (hp1 : p < 18446744073709551616) (hf : fitsV id p ≠ 0) (w : World) (hW : VaW w) :
    Calls Tryz.prog 13 #[.int .i64 id, .int .u64 p] w fun e w' => e = .returned (.tuple #[.agg #[.int .i64 0, .bool false, .int .u64 0, .int .i64 0], .int .i64 (fitsV id p)]) ∧ Below w.heap.size w w' := by
  have hfn := Lib.hid fun w (hW : VaW w) => fo_fits id p w hW.frm hp0 hp1
  have hff : (fitsV id p != 0) = true := by simp [hf]
  generalize fitsV id p = E at hfn hff ⊢
  clear hf
  go_enter Tryz.func13, Tryz.ntmps13
  go_wp2_with fail
  refine (hfn.out _ (hW.below ((Below.refl _ _).alloc (Nat.le_refl _) _))).mono ?_
  rintro e u1 ⟨rfl, hb⟩
  have hB : Below w.heap.size w u1 := ((Below.refl _ _).alloc (Nat.le_refl _) _).trans (hb.mono (by simp))
  have hp := pBlk_st _ _ _ _ _ (pBlk_made w #[.int .i64 0, .bool false, .int .u64 0, .int .i64 0] 31) hb
  obtain ⟨q0, q1, q2, q3⟩ := cells4 hp
  go_wp2_with ((with_reducible show wpList _ _ _ (Oper.mk _ (Op.store 31 _ _) _ _ _ _ :: _) _ _); refine wpList_store_whole _ rfl 31 _ _ rfl w.heap.size #[.int .i64 0, .bool false, .int .u64 0, .int .i64 0] #[.int .i64 0, .bool false, .int .u64 0, .int .i64 0] 31 rfl rfl hp value_size rfl (by simp [Value.oneCell']) ?_; intro u2 hp2 hb2 hz2; obtain ⟨r0, r1, r2, r3⟩ := cells4 hp2)
  exact bodyPost_ret (v := .tuple #[.agg #[.int .i64 0, .bool false, .int .u64 0, .int .i64 0], .int .i64 E]) (by simp [results, Tryz.results13, go_sem, r0, r1, r2, r3]) rfl ⟨rfl, hB.trans hb2⟩
set_option maxRecDepth 100000 in
set_option maxHeartbeats 1000000 in
theorem vdec_yes (id p : Int) (h1 : 1 ≤ id) (h2 : id < 15) (hp0 : 0 ≤ p) (hp1 : p < 2 ^ (fW id).toNat) (w : World) (hW : VaW w) :
    Calls Tryz.prog 13 #[.int .i64 id, .int .u64 p] w fun e w' => e = .returned (.tuple #[.agg #[.int .i64 (classV id p), .bool (decN id p), .int .u64 (decM id p : Nat), .int .i64 (decE id p)], .int .i64 0]) ∧ Below w.heap.size w w' := by
  obtain ⟨w1, w2, -⟩ := fo_wide h1 h2
  have hp64 : p < 18446744073709551616 := by
    have : (2 : Int) ^ (fW id).toNat ≤ 2 ^ 64 := by
      have h5 : 2 ^ (fW id).toNat ≤ 2 ^ 64 := Nat.pow_le_pow_right (by decide) w1
      exact_mod_cast h5
    omega
  have hf0 : fitsV id p = 0 := by unfold fitsV; rw [if_neg (by omega), if_pos hp1]
  have hfn := fun w (hW : VaW w) => fo_fits id p w hW.frm hp0 hp64
  rw [hf0] at hfn
  replace hfn := Lib.hid hfn
  have hof := Lib.hid fun w hW => vof_yes id h1 h2 w hW
  have hpt := Lib.hid fun w => vparts_any id p h1 h2 hp0 hp1 w
  have hcl := Lib.hid fun w => vclass_any id p w
  have hc : classV id p = 1 ∨ classV id p = 2 ∨ classV id p = 3 ∨ classV id p = 4 := by
    unfold classV; repeat' split
    all_goals simp
  rcases hc with hc | hc | hc | hc
  · have hn : decN id p = partN id p := by unfold decN; rw [if_neg (by rw [hc]; decide)]
    have hm : decM id p = 0 := by unfold decM; rw [if_neg (by rw [hc]; decide)]
    have he : decE id p = 0 := by unfold decE; rw [if_neg (by rw [hc]; decide)]
    rw [hn, hm, he, hc]
    rw [hc] at hcl
    clear hn hm he hc hf0 hp1 hp64
    generalize partN id p = ng at hpt ⊢
    generalize partK id p = key at hpt hcl
    all_goals
      go_enter Tryz.func13, Tryz.ntmps13
      go_wp2_with fail
      refine (hfn.out _ (hW.below ((Below.refl _ _).alloc (Nat.le_refl _) _))).mono ?_
      rintro e u1 ⟨rfl, hb⟩
      have hB : Below w.heap.size w u1 := ((Below.refl _ _).alloc (Nat.le_refl _) _).trans (hb.mono (by simp))
      have hp := pBlk_st _ _ _ _ _ (pBlk_made w #[.int .i64 0, .bool false, .int .u64 0, .int .i64 0] 31) hb
      go_wp2_with fail
      refine (hof.out _ (hW.below hB)).mono ?_
      rintro e u2 ⟨rfl, hb2⟩
      have hpA := pBlk_st _ _ _ _ _ hp hb2
      have hB2 := hB.trans (hb2.mono hB.size)
      go_wp2_with (first | ((with_reducible show wpList _ _ _ (Oper.mk _ (Op.store 92 _ _) _ _ _ _ :: _) _ _); refine wpList_store_whole _ rfl 92 _ _ rfl (u2).heap.size _ #[.int .i64 0, .int .i64 0, .int .i64 0, .int .i64 0, .int .u64 0, .int .u64 0, .int .u64 0, .nilFunc] 92 rfl rfl (pBlk_made u2 #[.int .i64 0, .int .i64 0, .int .i64 0, .int .i64 0, .int .u64 0, .int .u64 0, .int .u64 0, .nilFunc] 92) shape_size rfl (by simp [Value.oneCell']) ?_; intro w2 hp2 hb3 hz2; obtain ⟨r0, r1, r2, r3, r4, r5, r6, r7⟩ := cells8 hp2))
      have hB3 := (hB2.alloc hB2.size (.cells #[.int .i64 0, .int .i64 0, .int .i64 0, .int .i64 0, .int .u64 0, .int .u64 0, .int .u64 0, .nilFunc] 92)).trans (hb3.mono hB2.size)
      have hpB := pBlk_keep (pBlk_st _ _ _ _ _ hpA ((Below.refl _ _).alloc (Nat.le_refl _) (.cells #[.int .i64 0, .int .i64 0, .int .i64 0, .int .i64 0, .int .u64 0, .int .u64 0, .int .u64 0, .nilFunc] 92))) hb3 (by have := hb.size; have := hb2.size; simp at *; omega)
      refine (hpt.out _).mono ?_
      rintro e u3 ⟨rfl, hb4⟩
      have hpC := pBlk_st _ _ _ _ _ hpB hb4
      have hsC := pBlk_st _ _ _ _ _ hp2 hb4
      clear r0 r1 r2 r3 r4 r5 r6 r7
      obtain ⟨r0, r1, r2, r3, r4, r5, r6, r7⟩ := cells8 hsC
      go_wp2_with fail
      refine (hcl.out _).mono ?_
      rintro e u4 ⟨rfl, hb5⟩
      have hpD := pBlk_st _ _ _ _ _ hpC hb5
      have hsD := pBlk_st _ _ _ _ _ hsC hb5
      obtain ⟨p0, p1, p2, p3⟩ := cells4 hpD
      have f0 := hpD.free 0
      have f1 := hpD.free 1
      have hB5 := (hB3.trans (hb4.mono hB3.size)).trans (hb5.mono (Nat.le_trans hB3.size hb4.size))
      clear hpt hcl hof hfn
      clear r0 r1 r2 r3 r4 r5 r6 r7
      have hpE : pBlk w.heap.size #[.int .i64 1, .bool ng, .int .u64 0, .int .i64 0] 31 ((u4.setCell ⟨w.heap.size, 0, none⟩ (.int .i64 1)).setCell ⟨w.heap.size, 1, none⟩ (.bool ng)) := (hpD.setX 0 _).setX 1 _
      obtain ⟨q0, q1, q2, q3⟩ := cells4 hpE
      have hBE : Below w.heap.size w ((u4.setCell ⟨w.heap.size, 0, none⟩ (.int .i64 1)).setCell ⟨w.heap.size, 1, none⟩ (.bool ng)) := (hB5.setCell (p := ⟨w.heap.size, 0, none⟩) (Nat.le_refl _) _).setCell (p := ⟨w.heap.size, 1, none⟩) (Nat.le_refl _) _
      go_wp2_with ((with_reducible show wpList _ _ _ (Oper.mk _ (Op.store 31 _ _) _ _ _ _ :: _) _ _); refine wpList_store_whole _ rfl 31 _ _ rfl w.heap.size #[.int .i64 1, .bool ng, .int .u64 0, .int .i64 0] #[.int .i64 1, .bool ng, .int .u64 0, .int .i64 0] 31 rfl rfl hpE value_size rfl (by simp [Value.oneCell']) ?_; intro u5 hp2 hb2 hz2; obtain ⟨r0, r1, r2, r3⟩ := cells4 hp2)
      exact bodyPost_ret (v := .tuple #[.agg #[.int .i64 1, .bool ng, .int .u64 0, .int .i64 0], .int .i64 0]) (by simp [results, Tryz.results13, go_sem, r0, r1, r2, r3]) rfl ⟨rfl, hBE.trans hb2⟩
  · have hn : decN id p = partN id p := by unfold decN; rw [if_neg (by rw [hc]; decide)]
    have hm : decM id p = (magV id 0 (partK id p).toNat).1 := by unfold decM; rw [if_pos hc]
    have he : decE id p = (magV id 0 (partK id p).toNat).2 := by unfold decE; rw [if_pos hc]
    obtain ⟨x1, x2, x3, x4⟩ := class_two h1 h2 hp0 hp1 hc
    have hkn := partK_nonneg (id := id) hp0
    have hok := mag_own (key := (partK id p).toNat) h1 h2 (by omega) (fun h => by have := x3 (by omega); omega)
    have hnm := fun w hW => num_any id h1 h2 0 (partK id p).toNat 0 (partK id p) rfl (by omega) hok w hW
    rw [hn, hm, he, hc]
    rw [hc] at hcl
    clear hn hm he hc hf0 hp1 hp64 x1 x2 x3 x4 hok hkn
    generalize magV id 0 (partK id p).toNat = mg at hnm ⊢
    obtain ⟨mv, ev⟩ := mg
    generalize partN id p = ng at hpt ⊢
    generalize partK id p = key at hpt hcl hnm
    rcases numI_cases (fK id) with hI | hI | hI | hI
    all_goals
      rw [hI] at hnm hof hpt hcl
      replace hnm := Lib.hid hnm
      go_enter Tryz.func13, Tryz.ntmps13
      go_wp2_with fail
      refine (hfn.out _ (hW.below ((Below.refl _ _).alloc (Nat.le_refl _) _))).mono ?_
      rintro e u1 ⟨rfl, hb⟩
      have hB : Below w.heap.size w u1 := ((Below.refl _ _).alloc (Nat.le_refl _) _).trans (hb.mono (by simp))
      have hp := pBlk_st _ _ _ _ _ (pBlk_made w #[.int .i64 0, .bool false, .int .u64 0, .int .i64 0] 31) hb
      go_wp2_with fail
      refine (hof.out _ (hW.below hB)).mono ?_
      rintro e u2 ⟨rfl, hb2⟩
      have hpA := pBlk_st _ _ _ _ _ hp hb2
      have hB2 := hB.trans (hb2.mono hB.size)
      go_wp2_with (first | ((with_reducible show wpList _ _ _ (Oper.mk _ (Op.store 92 _ _) _ _ _ _ :: _) _ _); refine wpList_store_whole _ rfl 92 _ _ rfl (u2).heap.size _ #[.int .i64 0, .int .i64 0, .int .i64 0, .int .i64 0, .int .u64 0, .int .u64 0, .int .u64 0, .nilFunc] 92 rfl rfl (pBlk_made u2 #[.int .i64 0, .int .i64 0, .int .i64 0, .int .i64 0, .int .u64 0, .int .u64 0, .int .u64 0, .nilFunc] 92) shape_size rfl (by simp [Value.oneCell']) ?_; intro w2 hp2 hb3 hz2; obtain ⟨r0, r1, r2, r3, r4, r5, r6, r7⟩ := cells8 hp2))
      have hB3 := (hB2.alloc hB2.size (.cells #[.int .i64 0, .int .i64 0, .int .i64 0, .int .i64 0, .int .u64 0, .int .u64 0, .int .u64 0, .nilFunc] 92)).trans (hb3.mono hB2.size)
      have hpB := pBlk_keep (pBlk_st _ _ _ _ _ hpA ((Below.refl _ _).alloc (Nat.le_refl _) (.cells #[.int .i64 0, .int .i64 0, .int .i64 0, .int .i64 0, .int .u64 0, .int .u64 0, .int .u64 0, .nilFunc] 92))) hb3 (by have := hb.size; have := hb2.size; simp at *; omega)
      refine (hpt.out _).mono ?_
      rintro e u3 ⟨rfl, hb4⟩
      have hpC := pBlk_st _ _ _ _ _ hpB hb4
      have hsC := pBlk_st _ _ _ _ _ hp2 hb4
      clear r0 r1 r2 r3 r4 r5 r6 r7
      obtain ⟨r0, r1, r2, r3, r4, r5, r6, r7⟩ := cells8 hsC
      go_wp2_with fail
      refine (hcl.out _).mono ?_
      rintro e u4 ⟨rfl, hb5⟩
      have hpD := pBlk_st _ _ _ _ _ hpC hb5
      have hsD := pBlk_st _ _ _ _ _ hsC hb5
      obtain ⟨p0, p1, p2, p3⟩ := cells4 hpD
      have f0 := hpD.free 0
      have f1 := hpD.free 1
      have hB5 := (hB3.trans (hb4.mono hB3.size)).trans (hb5.mono (Nat.le_trans hB3.size hb4.size))
      clear hpt hcl hof hfn
      clear r0 r1 r2 r3 r4 r5 r6 r7
      have hpE : pBlk w.heap.size #[.int .i64 2, .bool ng, .int .u64 0, .int .i64 0] 31 ((u4.setCell ⟨w.heap.size, 0, none⟩ (.int .i64 2)).setCell ⟨w.heap.size, 1, none⟩ (.bool ng)) := (hpD.setX 0 _).setX 1 _
      have hBE : Below w.heap.size w ((u4.setCell ⟨w.heap.size, 0, none⟩ (.int .i64 2)).setCell ⟨w.heap.size, 1, none⟩ (.bool ng)) := (hB5.setCell (p := ⟨w.heap.size, 0, none⟩) (Nat.le_refl _) _).setCell (p := ⟨w.heap.size, 1, none⟩) (Nat.le_refl _) _
      have hne : u2.heap.size ≠ w.heap.size := by have := hb.size; have := hb2.size; simp at *; omega
      have hnb : ∀ i o : Nat, (⟨w.heap.size, i, none⟩ : Addr) ≠ ⟨u2.heap.size, o, none⟩ := fun i o e => hne (by injection e with e; exact e.symm)
      have r : ∀ o : Nat, ((u4.setCell ⟨w.heap.size, 0, none⟩ (.int .i64 2)).setCell ⟨w.heap.size, 1, none⟩ (.bool ng)).cell? ⟨u2.heap.size, o, none⟩ = u4.cell? ⟨u2.heap.size, o, none⟩ := fun o => by
        rw [World.cell?_setCell_other _ _ _ _ (hnb 1 o), World.cell?_setCell_other _ _ _ _ (hnb 0 o)]
      obtain ⟨s0, s1, s2, s3, s4, s5, s6, s7⟩ := cells8 hsD
      have t0 := (r 0).trans s0
      have t1 := (r 1).trans s1
      have t2 := (r 2).trans s2
      have t3 := (r 3).trans s3
      have t4 := (r 4).trans s4
      have t5 := (r 5).trans s5
      have t6 := (r 6).trans s6
      have t7 := (r 7).trans s7
      clear r hnb s0 s1 s2 s3 s4 s5 s6 s7
      go_wp2_with fail
      refine (hnm.out _ (hW.below hBE)).mono ?_
      rintro e u6 ⟨rfl, hb6⟩
      have hpF := pBlk_st _ _ _ _ _ hpE hb6
      have hB6 := hBE.trans (hb6.mono hBE.size)
      clear p0 p1 p2 p3 f0 f1 t0 t1 t2 t3 t4 t5 t6 t7
      obtain ⟨p0, p1, p2, p3⟩ := cells4 hpF
      have f2 := hpF.free 2
      have f3 := hpF.free 3
      have hpG : pBlk w.heap.size #[.int .i64 2, .bool ng, .int .u64 mv, .int .i64 ev] 31 ((u6.setCell ⟨w.heap.size, 2, none⟩ (.int .u64 mv)).setCell ⟨w.heap.size, 3, none⟩ (.int .i64 ev)) := (hpF.setX 2 _).setX 3 _
      have hBG : Below w.heap.size w ((u6.setCell ⟨w.heap.size, 2, none⟩ (.int .u64 mv)).setCell ⟨w.heap.size, 3, none⟩ (.int .i64 ev)) := (hB6.setCell (p := ⟨w.heap.size, 2, none⟩) (Nat.le_refl _) _).setCell (p := ⟨w.heap.size, 3, none⟩) (Nat.le_refl _) _
      obtain ⟨q0, q1, q2, q3⟩ := cells4 hpG
      go_wp2_with ((with_reducible show wpList _ _ _ (Oper.mk _ (Op.store 31 _ _) _ _ _ _ :: _) _ _); refine wpList_store_whole _ rfl 31 _ _ rfl w.heap.size #[.int .i64 2, .bool ng, .int .u64 mv, .int .i64 ev] #[.int .i64 2, .bool ng, .int .u64 mv, .int .i64 ev] 31 rfl rfl hpG value_size rfl (by simp [Value.oneCell']) ?_; intro u5 hp2 hb2 hz2; obtain ⟨r0, r1, r2, r3⟩ := cells4 hp2)
      exact bodyPost_ret (v := .tuple #[.agg #[.int .i64 2, .bool ng, .int .u64 mv, .int .i64 ev], .int .i64 0]) (by simp [results, Tryz.results13, go_sem, r0, r1, r2, r3]) rfl ⟨rfl, hBG.trans hb2⟩
  · have hn : decN id p = partN id p := by unfold decN; rw [if_neg (by rw [hc]; decide)]
    have hm : decM id p = 0 := by unfold decM; rw [if_neg (by rw [hc]; decide)]
    have he : decE id p = 0 := by unfold decE; rw [if_neg (by rw [hc]; decide)]
    rw [hn, hm, he, hc]
    rw [hc] at hcl
    clear hn hm he hc hf0 hp1 hp64
    generalize partN id p = ng at hpt ⊢
    generalize partK id p = key at hpt hcl
    all_goals
      go_enter Tryz.func13, Tryz.ntmps13
      go_wp2_with fail
      refine (hfn.out _ (hW.below ((Below.refl _ _).alloc (Nat.le_refl _) _))).mono ?_
      rintro e u1 ⟨rfl, hb⟩
      have hB : Below w.heap.size w u1 := ((Below.refl _ _).alloc (Nat.le_refl _) _).trans (hb.mono (by simp))
      have hp := pBlk_st _ _ _ _ _ (pBlk_made w #[.int .i64 0, .bool false, .int .u64 0, .int .i64 0] 31) hb
      go_wp2_with fail
      refine (hof.out _ (hW.below hB)).mono ?_
      rintro e u2 ⟨rfl, hb2⟩
      have hpA := pBlk_st _ _ _ _ _ hp hb2
      have hB2 := hB.trans (hb2.mono hB.size)
      go_wp2_with (first | ((with_reducible show wpList _ _ _ (Oper.mk _ (Op.store 92 _ _) _ _ _ _ :: _) _ _); refine wpList_store_whole _ rfl 92 _ _ rfl (u2).heap.size _ #[.int .i64 0, .int .i64 0, .int .i64 0, .int .i64 0, .int .u64 0, .int .u64 0, .int .u64 0, .nilFunc] 92 rfl rfl (pBlk_made u2 #[.int .i64 0, .int .i64 0, .int .i64 0, .int .i64 0, .int .u64 0, .int .u64 0, .int .u64 0, .nilFunc] 92) shape_size rfl (by simp [Value.oneCell']) ?_; intro w2 hp2 hb3 hz2; obtain ⟨r0, r1, r2, r3, r4, r5, r6, r7⟩ := cells8 hp2))
      have hB3 := (hB2.alloc hB2.size (.cells #[.int .i64 0, .int .i64 0, .int .i64 0, .int .i64 0, .int .u64 0, .int .u64 0, .int .u64 0, .nilFunc] 92)).trans (hb3.mono hB2.size)
      have hpB := pBlk_keep (pBlk_st _ _ _ _ _ hpA ((Below.refl _ _).alloc (Nat.le_refl _) (.cells #[.int .i64 0, .int .i64 0, .int .i64 0, .int .i64 0, .int .u64 0, .int .u64 0, .int .u64 0, .nilFunc] 92))) hb3 (by have := hb.size; have := hb2.size; simp at *; omega)
      refine (hpt.out _).mono ?_
      rintro e u3 ⟨rfl, hb4⟩
      have hpC := pBlk_st _ _ _ _ _ hpB hb4
      have hsC := pBlk_st _ _ _ _ _ hp2 hb4
      clear r0 r1 r2 r3 r4 r5 r6 r7
      obtain ⟨r0, r1, r2, r3, r4, r5, r6, r7⟩ := cells8 hsC
      go_wp2_with fail
      refine (hcl.out _).mono ?_
      rintro e u4 ⟨rfl, hb5⟩
      have hpD := pBlk_st _ _ _ _ _ hpC hb5
      have hsD := pBlk_st _ _ _ _ _ hsC hb5
      obtain ⟨p0, p1, p2, p3⟩ := cells4 hpD
      have f0 := hpD.free 0
      have f1 := hpD.free 1
      have hB5 := (hB3.trans (hb4.mono hB3.size)).trans (hb5.mono (Nat.le_trans hB3.size hb4.size))
      clear hpt hcl hof hfn
      clear r0 r1 r2 r3 r4 r5 r6 r7
      have hpE : pBlk w.heap.size #[.int .i64 3, .bool ng, .int .u64 0, .int .i64 0] 31 ((u4.setCell ⟨w.heap.size, 0, none⟩ (.int .i64 3)).setCell ⟨w.heap.size, 1, none⟩ (.bool ng)) := (hpD.setX 0 _).setX 1 _
      obtain ⟨q0, q1, q2, q3⟩ := cells4 hpE
      have hBE : Below w.heap.size w ((u4.setCell ⟨w.heap.size, 0, none⟩ (.int .i64 3)).setCell ⟨w.heap.size, 1, none⟩ (.bool ng)) := (hB5.setCell (p := ⟨w.heap.size, 0, none⟩) (Nat.le_refl _) _).setCell (p := ⟨w.heap.size, 1, none⟩) (Nat.le_refl _) _
      go_wp2_with ((with_reducible show wpList _ _ _ (Oper.mk _ (Op.store 31 _ _) _ _ _ _ :: _) _ _); refine wpList_store_whole _ rfl 31 _ _ rfl w.heap.size #[.int .i64 3, .bool ng, .int .u64 0, .int .i64 0] #[.int .i64 3, .bool ng, .int .u64 0, .int .i64 0] 31 rfl rfl hpE value_size rfl (by simp [Value.oneCell']) ?_; intro u5 hp2 hb2 hz2; obtain ⟨r0, r1, r2, r3⟩ := cells4 hp2)
      exact bodyPost_ret (v := .tuple #[.agg #[.int .i64 3, .bool ng, .int .u64 0, .int .i64 0], .int .i64 0]) (by simp [results, Tryz.results13, go_sem, r0, r1, r2, r3]) rfl ⟨rfl, hBE.trans hb2⟩
  · have hn : decN id p = false := by unfold decN; rw [if_pos hc]
    have hm : decM id p = 0 := by unfold decM; rw [if_neg (by rw [hc]; decide)]
    have he : decE id p = 0 := by unfold decE; rw [if_neg (by rw [hc]; decide)]
    rw [hn, hm, he, hc]
    rw [hc] at hcl
    clear hn hm he hc hf0 hp1 hp64
    generalize partN id p = ng at hpt
    generalize partK id p = key at hpt hcl
    all_goals
      go_enter Tryz.func13, Tryz.ntmps13
      go_wp2_with fail
      refine (hfn.out _ (hW.below ((Below.refl _ _).alloc (Nat.le_refl _) _))).mono ?_
      rintro e u1 ⟨rfl, hb⟩
      have hB : Below w.heap.size w u1 := ((Below.refl _ _).alloc (Nat.le_refl _) _).trans (hb.mono (by simp))
      have hp := pBlk_st _ _ _ _ _ (pBlk_made w #[.int .i64 0, .bool false, .int .u64 0, .int .i64 0] 31) hb
      go_wp2_with fail
      refine (hof.out _ (hW.below hB)).mono ?_
      rintro e u2 ⟨rfl, hb2⟩
      have hpA := pBlk_st _ _ _ _ _ hp hb2
      have hB2 := hB.trans (hb2.mono hB.size)
      go_wp2_with (first | ((with_reducible show wpList _ _ _ (Oper.mk _ (Op.store 92 _ _) _ _ _ _ :: _) _ _); refine wpList_store_whole _ rfl 92 _ _ rfl (u2).heap.size _ #[.int .i64 0, .int .i64 0, .int .i64 0, .int .i64 0, .int .u64 0, .int .u64 0, .int .u64 0, .nilFunc] 92 rfl rfl (pBlk_made u2 #[.int .i64 0, .int .i64 0, .int .i64 0, .int .i64 0, .int .u64 0, .int .u64 0, .int .u64 0, .nilFunc] 92) shape_size rfl (by simp [Value.oneCell']) ?_; intro w2 hp2 hb3 hz2; obtain ⟨r0, r1, r2, r3, r4, r5, r6, r7⟩ := cells8 hp2))
      have hB3 := (hB2.alloc hB2.size (.cells #[.int .i64 0, .int .i64 0, .int .i64 0, .int .i64 0, .int .u64 0, .int .u64 0, .int .u64 0, .nilFunc] 92)).trans (hb3.mono hB2.size)
      have hpB := pBlk_keep (pBlk_st _ _ _ _ _ hpA ((Below.refl _ _).alloc (Nat.le_refl _) (.cells #[.int .i64 0, .int .i64 0, .int .i64 0, .int .i64 0, .int .u64 0, .int .u64 0, .int .u64 0, .nilFunc] 92))) hb3 (by have := hb.size; have := hb2.size; simp at *; omega)
      refine (hpt.out _).mono ?_
      rintro e u3 ⟨rfl, hb4⟩
      have hpC := pBlk_st _ _ _ _ _ hpB hb4
      have hsC := pBlk_st _ _ _ _ _ hp2 hb4
      clear r0 r1 r2 r3 r4 r5 r6 r7
      obtain ⟨r0, r1, r2, r3, r4, r5, r6, r7⟩ := cells8 hsC
      go_wp2_with fail
      refine (hcl.out _).mono ?_
      rintro e u4 ⟨rfl, hb5⟩
      have hpD := pBlk_st _ _ _ _ _ hpC hb5
      have hsD := pBlk_st _ _ _ _ _ hsC hb5
      obtain ⟨p0, p1, p2, p3⟩ := cells4 hpD
      have f0 := hpD.free 0
      have f1 := hpD.free 1
      have hB5 := (hB3.trans (hb4.mono hB3.size)).trans (hb5.mono (Nat.le_trans hB3.size hb4.size))
      clear hpt hcl hof hfn
      clear r0 r1 r2 r3 r4 r5 r6 r7
      have hpE : pBlk w.heap.size #[.int .i64 4, .bool false, .int .u64 0, .int .i64 0] 31 (u4.setCell ⟨w.heap.size, 0, none⟩ (.int .i64 4)) := hpD.setX 0 _
      obtain ⟨q0, q1, q2, q3⟩ := cells4 hpE
      have hBE : Below w.heap.size w (u4.setCell ⟨w.heap.size, 0, none⟩ (.int .i64 4)) := hB5.setCell (p := ⟨w.heap.size, 0, none⟩) (Nat.le_refl _) _
      go_wp2_with ((with_reducible show wpList _ _ _ (Oper.mk _ (Op.store 31 _ _) _ _ _ _ :: _) _ _); refine wpList_store_whole _ rfl 31 _ _ rfl w.heap.size #[.int .i64 4, .bool false, .int .u64 0, .int .i64 0] #[.int .i64 4, .bool false, .int .u64 0, .int .i64 0] 31 rfl rfl hpE value_size rfl (by simp [Value.oneCell']) ?_; intro u5 hp2 hb2 hz2; obtain ⟨r0, r1, r2, r3⟩ := cells4 hp2)
      exact bodyPost_ret (v := .tuple #[.agg #[.int .i64 4, .bool false, .int .u64 0, .int .i64 0], .int .i64 0]) (by simp [results, Tryz.results13, go_sem, r0, r1, r2, r3]) rfl ⟨rfl, hBE.trans hb2⟩
end Go.Proofs.YtehpneojiinmdaaGreatDoor
namespace Go.Proofs.YtehpneojiinmdaaGreatDoor
open Go.RowKit Go.Cal
set_option maxRecDepth 100000 in
set_option maxHeartbeats 1000000 in
theorem vkey_yes (id p : Int) (h1 : 1 ≤ id) (h2 : id < 15) (hp0 : 0 ≤ p) (hp1 : p < 2 ^ (fW id).toNat) (hc : classV id p = 1 ∨ classV id p = 2) (w : World) (hW : VaW w) :
    Calls Tryz.prog 161 #[.int .i64 id, .int .u64 p] w fun e w' => e = .returned (.tuple #[.bool (partN id p), .int .u64 (partK id p), .int .i64 0]) ∧ Below w.heap.size w w' := by
  have hdc := fun w hW => vdec_yes id p h1 h2 hp0 hp1 w hW
  have hof := Lib.hid fun w hW => vof_yes id h1 h2 w hW
  have hpt := Lib.hid fun w => vparts_any id p h1 h2 hp0 hp1 w
  generalize decN id p = dn at hdc
  generalize decM id p = dm at hdc
  generalize decE id p = de at hdc
  generalize partN id p = ng at hpt ⊢
  generalize partK id p = key at hpt ⊢
  clear hp0 hp1
  rcases hc with hc | hc
  · rw [hc] at hdc
    replace hdc := Lib.hid hdc
    clear hc
    go_enter Tryz.func161, Tryz.ntmps161
    go_wp2_with fail
    refine (hdc.out _ hW).mono ?_
    rintro e u1 ⟨rfl, hb⟩
    go_wp2_with fail
    have hB := hb.alloc hb.size (.cells #[.int .i64 1, .bool dn, .int .u64 (dm : Nat), .int .i64 de] 31)
    refine (hof.out _ (hW.below hB)).mono ?_
    rintro e u2 ⟨rfl, hb1⟩
    have hB2 := hB.trans (hb1.mono hB.size)
    go_wp2_with (first | ((with_reducible show wpList _ _ _ (Oper.mk _ (Op.store 92 _ _) _ _ _ _ :: _) _ _); refine wpList_store_whole _ rfl 92 _ _ rfl (u2).heap.size _ #[.int .i64 0, .int .i64 0, .int .i64 0, .int .i64 0, .int .u64 0, .int .u64 0, .int .u64 0, .nilFunc] 92 rfl rfl (pBlk_made u2 #[.int .i64 0, .int .i64 0, .int .i64 0, .int .i64 0, .int .u64 0, .int .u64 0, .int .u64 0, .nilFunc] 92) shape_size rfl (by simp [Value.oneCell']) ?_; intro w2 hp2 hb3 hz2; obtain ⟨r0, r1, r2, r3, r4, r5, r6, r7⟩ := cells8 hp2))
    have hB3 := (hB2.alloc hB2.size (.cells #[.int .i64 0, .int .i64 0, .int .i64 0, .int .i64 0, .int .u64 0, .int .u64 0, .int .u64 0, .nilFunc] 92)).trans (hb3.mono hB2.size)
    refine (hpt.out _).mono ?_
    rintro e u3 ⟨rfl, hb4⟩
    go_wp2
    go_ret3
    exact ⟨rfl, hB3.trans (hb4.mono hB3.size)⟩
  · rw [hc] at hdc
    replace hdc := Lib.hid hdc
    clear hc
    go_enter Tryz.func161, Tryz.ntmps161
    go_wp2_with fail
    refine (hdc.out _ hW).mono ?_
    rintro e u1 ⟨rfl, hb⟩
    go_wp2_with fail
    have hB := hb.alloc hb.size (.cells #[.int .i64 2, .bool dn, .int .u64 (dm : Nat), .int .i64 de] 31)
    refine (hof.out _ (hW.below hB)).mono ?_
    rintro e u2 ⟨rfl, hb1⟩
    have hB2 := hB.trans (hb1.mono hB.size)
    go_wp2_with (first | ((with_reducible show wpList _ _ _ (Oper.mk _ (Op.store 92 _ _) _ _ _ _ :: _) _ _); refine wpList_store_whole _ rfl 92 _ _ rfl (u2).heap.size _ #[.int .i64 0, .int .i64 0, .int .i64 0, .int .i64 0, .int .u64 0, .int .u64 0, .int .u64 0, .nilFunc] 92 rfl rfl (pBlk_made u2 #[.int .i64 0, .int .i64 0, .int .i64 0, .int .i64 0, .int .u64 0, .int .u64 0, .int .u64 0, .nilFunc] 92) shape_size rfl (by simp [Value.oneCell']) ?_; intro w2 hp2 hb3 hz2; obtain ⟨r0, r1, r2, r3, r4, r5, r6, r7⟩ := cells8 hp2))
    have hB3 := (hB2.alloc hB2.size (.cells #[.int .i64 0, .int .i64 0, .int .i64 0, .int .i64 0, .int .u64 0, .int .u64 0, .int .u64 0, .nilFunc] 92)).trans (hb3.mono hB2.size)
    refine (hpt.out _).mono ?_
    rintro e u3 ⟨rfl, hb4⟩
    go_wp2
    go_ret3
    exact ⟨rfl, hB3.trans (hb4.mono hB3.size)⟩
end Go.Proofs.YtehpneojiinmdaaGreatDoor
