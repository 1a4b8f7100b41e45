/- The document's values: a pattern's sign and magnitude, its class, its number; walked. Conditions: none. -/
import Derived.Test.YtncfbleeidjflaaGreatDoorPz37
import Derived.Test.YtncfbleeidjflaaGreatDoorPz39
import Derived.Test.YtncfbleeidjflaaGreatDoorPz24
namespace Go.Proofs.YtncfbleeidjflaaGreatDoor
open Go.RowKit Go.Cal
theorem fw_pow {id : Int} (h1 : 1 ≤ id) (h2 : id < 15) : (2 : Int) ^ (fW id).toNat = 2 * 2 ^ ((fW id).toNat - 1) := by
  obtain ⟨-, w2, -⟩ := fo_wide h1 h2
  obtain ⟨n, hn⟩ : ∃ n, (fW id).toNat = n + 1 := ⟨(fW id).toNat - 1, by omega⟩
  rw [hn, Int.pow_succ, Nat.add_sub_cancel]
  omega
theorem part_flip {p : Int} {n : Nat} (hp : 0 < p) (h : p < 2 ^ n) : (-p) % 2 ^ n = 2 ^ n - p := by
  rw [Int.neg_emod, if_neg, Int.natAbs_of_nonneg (Int.le_of_lt (Int.pow_pos (by decide))), Int.emod_eq_of_lt (by omega) h]
  intro hd
  have := Int.le_of_dvd hp hd
  omega
set_option maxRecDepth 100000 in
set_option maxHeartbeats 4000000 in
theorem rparts7_any (id p : Int) (h1 : 1 ≤ id) (h2 : id < 15) (hp0 : 0 ≤ p) (hp1 : p < 2 ^ (fW id).toNat) (w : World) :
    Calls Tryz.prog 72 #[.agg #[.int .i64 (fK id), .int .i64 (fW id), .int .i64 (fM id), .int .i64 (fB id), .int .u64 (fT id), .int .u64 (fI id), .int .u64 (fN id)], .int .u64 p] w fun e w' => e = .returned (.tuple #[.bool (partN id p), .int .u64 (partK id p)]) ∧ Below w.heap.size w w' := by
  have hsg := Lib.hid fun w => rsgn_any id h1 h2 w
  obtain ⟨w1, w2, -⟩ := fo_wide h1 h2
  have hmk := Lib.hid fun w => rmask_any (fK id) (fW id) (fM id) (fB id) (fT id) (fI id) (fN id) w (ft_bounds id).1 (ft_bounds id).2.1
  have hpw := fw_pow h1 h2
  have hp63 : (2 : Int) ^ ((fW id).toNat - 1) ≤ 9223372036854775808 := by
    have h5 : 2 ^ ((fW id).toNat - 1) ≤ 2 ^ 63 := Nat.pow_le_pow_right (by decide) (by omega)
    have e5 : ((2 ^ ((fW id).toNat - 1) : Nat) : Int) = (2 : Int) ^ ((fW id).toNat - 1) := by push_cast; rfl
    omega
  have hp00 : (0 : Int) < 2 ^ ((fW id).toNat - 1) := Int.pow_pos (by decide)
  by_cases h4 : fK id = 4
  · have hN : partN id p = false := by unfold partN; simp [h4]
    have hK : partK id p = p := by unfold partK; rw [if_pos hN]
    have hS : sgV id = 0 := by unfold sgV; rw [if_pos h4]
    rw [hN, hK]
    rw [hS] at hsg
    have hb0 := (Below.refl w.heap.size w).alloc (Nat.le_refl _) (.cells #[.int .i64 (fK id), .int .i64 (fW id), .int .i64 (fM id), .int .i64 (fB id), .int .u64 (fT id), .int .u64 (fI id), .int .u64 (fN id)] 73)
    obtain ⟨q0, q1, q2, q3, q4, q5, q6⟩ := cells7R (pBlk_made w #[.int .i64 (fK id), .int .i64 (fW id), .int .i64 (fM id), .int .i64 (fB id), .int .u64 (fT id), .int .u64 (fI id), .int .u64 (fN id)] 73)
    clear h4 hN hK hS hpw hp1 hmk hp63 hp00 w1 w2 h1 h2
    go_enter Tryz.func72, Tryz.ntmps72
    go_wp2_with fail
    refine (hsg.out _).mono ?_
    rintro e w1 ⟨rfl, hb1⟩
    have hfin := hb0.trans (hb1.mono hb0.size)
    go_wp2
    exact bodyPost_ret (v := .tuple #[.bool false, .int .u64 p]) (by simp [results, Tryz.results72, go_sem]) rfl ⟨rfl, hfin⟩
  · have hS : sgV id = 2 ^ ((fW id).toNat - 1) := by unfold sgV; rw [if_neg h4]
    rw [hS] at hsg
    have hr0 := pBlk_made w #[.int .i64 (fK id), .int .i64 (fW id), .int .i64 (fM id), .int .i64 (fB id), .int .u64 (fT id), .int .u64 (fI id), .int .u64 (fN id)] 73
    have hb0 := (Below.refl w.heap.size w).alloc (Nat.le_refl _) (.cells #[.int .i64 (fK id), .int .i64 (fW id), .int .i64 (fM id), .int .i64 (fB id), .int .u64 (fT id), .int .u64 (fI id), .int .u64 (fN id)] 73)
    obtain ⟨q0, q1, q2, q3, q4, q5, q6⟩ := cells7R hr0
    by_cases hlt : p < 2 ^ ((fW id).toNat - 1)
    · have hN : partN id p = false := by unfold partN; simp; intro _; omega
      have hK : partK id p = p := by unfold partK; rw [if_pos hN]
      rw [hN, hK]
      clear hN hK hS hpw hp1
      generalize (2 : Int) ^ ((fW id).toNat - 1) = S at *
      have hS0 : (S == 0) = false := by simp; omega
      clear hmk w1 w2 h1 h2 hp63 hp00 h4
      go_enter Tryz.func72, Tryz.ntmps72
      go_wp2_with fail
      refine (hsg.out _).mono ?_
      rintro e w1 ⟨rfl, hb1⟩
      have hfin := hb0.trans (hb1.mono hb0.size)
      go_wp2
      exact bodyPost_ret (v := .tuple #[.bool false, .int .u64 p]) (by simp [results, Tryz.results72, go_sem]) rfl ⟨rfl, hfin⟩
    · have hN : partN id p = true := by unfold partN; simp; exact ⟨h4, by omega⟩
      by_cases k2 : fK id = 2
      · have hK : partK id p = p - 2 ^ ((fW id).toNat - 1) := by unfold partK; rw [if_neg (by rw [hN]; decide), if_pos k2]
        rw [hN, hK]
        have b2 : (fK id == 2) = true := by simp [k2]
        clear hN hK hS k2
        rw [hpw] at hp1
        clear hpw
        generalize (2 : Int) ^ ((fW id).toNat - 1) = S at *
        have hS0 : (S == 0) = false := by simp; omega
        have hltb : decide (p < S) = false := by simp; omega
        have hw9 : IntKind.u64.wrap (p - S) = p - S := by rw [IntKind.wrap_u64]; omega
        clear hmk w1 w2 h1 h2 hp63 hp00 h4
        go_enter Tryz.func72, Tryz.ntmps72
        go_wp2_with fail
        refine (hsg.out _).mono ?_
        rintro e w1 ⟨rfl, hb1⟩
        have hfin := hb0.trans (hb1.mono hb0.size)
        have hr1 := pBlk_st _ _ _ _ _ hr0 hb1
        have ql := hr1.lt
        clear q0 q1 q2 q3 q4 q5 q6 hb1
        obtain ⟨q0, q1, q2, q3, q4, q5, q6⟩ := cells7R hr1
        go_wp2
        exact bodyPost_ret (v := .tuple #[.bool true, .int .u64 (p - S)]) (by simp [results, Tryz.results72, go_sem]) rfl ⟨rfl, hfin⟩
      · have hK : partK id p = 2 ^ (fW id).toNat - p := by
          unfold partK
          rw [if_neg (by rw [hN]; decide), if_neg k2]
          exact part_flip (by omega) hp1
        rw [hN, hK]
        have b2 : (fK id == 2) = false := by simp [k2]
        clear hN hK hS k2
        rw [hpw] at hp1 hmk ⊢
        clear hpw
        generalize (2 : Int) ^ ((fW id).toNat - 1) = S at *
        have hS0 : (S == 0) = false := by simp; omega
        have hltb : decide (p < S) = false := by simp; omega
        obtain ⟨V, hV⟩ : ∃ V, 2 * S - p = V := ⟨_, rfl⟩
        have hw9 : IntKind.u64.wrap (2 * S - 1 - p) = V - 1 := by rw [IntKind.wrap_u64]; omega
        have hw8 : IntKind.u64.wrap (V - 1 + 1) = V := by rw [IntKind.wrap_u64]; omega
        have hw7 : IntKind.u64.wrap V = V := by rw [IntKind.wrap_u64]; omega
        clear w1 w2 h1 h2 hp63 hp00 h4
        rw [hV]
        go_enter Tryz.func72, Tryz.ntmps72
        go_wp2_with fail
        refine (hsg.out _).mono ?_
        rintro e w1 ⟨rfl, hb1⟩
        have hB1 := hb0.trans (hb1.mono hb0.size)
        have hr1 := pBlk_st _ _ _ _ _ hr0 hb1
        have ql := hr1.lt
        clear q0 q1 q2 q3 q4 q5 q6 hb1 hb0
        obtain ⟨q0, q1, q2, q3, q4, q5, q6⟩ := cells7R hr1
        go_wp2_with fail
        refine (hmk.out _).mono ?_
        rintro e w2 ⟨rfl, hb2⟩
        have hfin := hB1.trans (hb2.mono hB1.size)
        go_wp2
        exact bodyPost_ret (v := .tuple #[.bool true, .int .u64 V]) (by simp [results, Tryz.results72, go_sem]) rfl ⟨rfl, hfin⟩
theorem class7_cases {id p : Int} (h1 : 1 ≤ id) (h2 : id < 15) :
    ((fK id == 2) = true ∧ fT id < partK id p ∧ (partK id p == fI id) = true ∧ classV id p = 3) ∨
    ((fK id == 2) = true ∧ fT id < partK id p ∧ (partK id p == fI id) = false ∧ classV id p = 4) ∨
    ((((fK id == 2) = true ∧ ¬ fT id < partK id p ∧ (fK id != 2) = false) ∨ ((fK id == 2) = false ∧ (fK id != 2) = true ∧ (fN id != 0) = false) ∨ ((fK id == 2) = false ∧ (fK id != 2) = true ∧ (fN id != 0) = true ∧ (p == fN id) = false)) ∧
      (((partK id p == 0) = true ∧ (fK id != 4) = true ∧ classV id p = 1) ∨ ((partK id p == 0) = true ∧ (fK id != 4) = false ∧ classV id p = 2) ∨ ((partK id p == 0) = false ∧ classV id p = 2))) ∨
    ((fK id == 2) = false ∧ (fK id != 2) = true ∧ (fN id != 0) = true ∧ (p == fN id) = true ∧ classV id p = 4) := by
  have hTI : fI id ≠ 0 → fT id = fI id - 1 := by
    rcases id_cases h1 h2 with rfl | rfl | rfl | rfl | rfl | rfl | rfl | rfl | rfl | rfl | rfl | rfl | rfl | rfl <;> decide
  have hT0 : 0 < fT id := (ft_bounds id).2.2.2.1
  unfold classV
  generalize partK id p = K
  by_cases k2 : fK id = 2
  · have b1 : (fK id == 2) = true := by simp [k2]
    have b2 : (fK id != 2) = false := by simp [k2]
    have b4 : (fK id != 4) = true := by simp [k2]
    by_cases hT : fT id < K
    · by_cases hI : K = fI id
      · exact .inl ⟨b1, hT, by simp [hI], by rw [if_pos ⟨k2, hI, by omega⟩]⟩
      · exact .inr (.inl ⟨b1, hT, by simp [hI], by rw [if_neg (fun h => hI h.2.1), if_pos (.inl ⟨k2, hT⟩)]⟩)
    · refine .inr (.inr (.inl ⟨.inl ⟨b1, hT, b2⟩, ?_⟩))
      rw [if_neg (fun h => hT (by have := hTI h.2.2; omega)), if_neg (fun h => by rcases h with h | h; exact hT h.2; exact h.1 k2)]
      by_cases h0 : K = 0
      · exact .inl ⟨by simp [h0], b4, by rw [if_pos ⟨h0, by omega⟩]⟩
      · exact .inr (.inr ⟨by simp [h0], by rw [if_neg (fun h => h0 h.1)]⟩)
  · have b1 : (fK id == 2) = false := by simp [k2]
    have b2 : (fK id != 2) = true := by simp [k2]
    rw [if_neg (fun h => k2 h.1)]
    by_cases hN : fN id ≠ 0 ∧ p = fN id
    · exact .inr (.inr (.inr ⟨b1, b2, by simp [hN.1], by simp [hN.2], by rw [if_pos (.inr ⟨k2, hN⟩)]⟩))
    · refine .inr (.inr (.inl ⟨?_, ?_⟩))
      · by_cases n0 : fN id = 0
        · exact .inr (.inl ⟨b1, b2, by simp [n0]⟩)
        · exact .inr (.inr ⟨b1, b2, by simp [n0], by simpa using fun h => hN ⟨n0, h⟩⟩)
      · rw [if_neg (fun h => by rcases h with h | h; exact k2 h.1; exact hN h.2)]
        by_cases h0 : K = 0
        · by_cases h4 : fK id = 4
          · exact .inr (.inl ⟨by simp [h0], by simp [h4], by rw [if_neg (fun h => h.2 h4)]⟩)
          · exact .inl ⟨by simp [h0], by simp [h4], by rw [if_pos ⟨h0, h4⟩]⟩
        · exact .inr (.inr ⟨by simp [h0], by rw [if_neg (fun h => h0 h.1)]⟩)
set_option maxRecDepth 100000 in
set_option maxHeartbeats 8000000 in
theorem rclass7_any (id p : Int) (h1 : 1 ≤ id) (h2 : id < 15) (hp0 : 0 ≤ p) (hp1 : p < 2 ^ (fW id).toNat) (w : World) :
    Calls Tryz.prog 73 #[.int .i64 id, .int .u64 p] w fun e w' => e = .returned (.int .i64 (classV id p)) ∧ Below w.heap.size w w' := by
  have hof := Lib.hid fun w => rof_yes id w h1 h2
  have hpt := Lib.hid fun w => rparts7_any id p h1 h2 hp0 hp1 w
  have hcs := class7_cases (p := p) h1 h2
  clear h1 h2 hp0 hp1
  generalize classV id p = cl at *
  generalize partN id p = ng at *
  generalize partK id p = K at *
  rcases hcs with ⟨b1, b2, b3, rfl⟩ | ⟨b1, b2, b3, rfl⟩ | ⟨hA, hB⟩ | ⟨b1, b2, b3, b4, rfl⟩
  · all_goals
        skip
        go_enter Tryz.func73, Tryz.ntmps73
        go_wp2_with fail
        refine (hof.out _).mono ?_
        rintro e w1 ⟨rfl, hb1⟩
        have hal := (Below.refl w1.heap.size w1).alloc (Nat.le_refl _) (.cells #[.int .i64 (fK id), .int .i64 (fW id), .int .i64 (fM id), .int .i64 (fB id), .int .u64 (fT id), .int .u64 (fI id), .int .u64 (fN id)] 73)
        have hr1 := pBlk_made w1 #[.int .i64 (fK id), .int .i64 (fW id), .int .i64 (fM id), .int .i64 (fB id), .int .u64 (fT id), .int .u64 (fI id), .int .u64 (fN id)] 73
        have hB1 := hb1.trans (hal.mono hb1.size)
        obtain ⟨q0, q1, q2, q3, q4, q5, q6⟩ := cells7R hr1
        have ql := hr1.lt
        clear hb1 hal
        go_wp2_with fail
        refine (hpt.out _).mono ?_
        rintro e w2 ⟨rfl, hb2⟩
        have hfin := hB1.trans (hb2.mono hB1.size)
        have hr2 := pBlk_st _ _ _ _ _ hr1 hb2
        clear q0 q1 q2 q3 q4 q5 q6 hb2 hB1 ql hr1
        obtain ⟨q0, q1, q2, q3, q4, q5, q6⟩ := cells7R hr2
        have ql := hr2.lt
        clear hr2
        go_wp2
        all_goals go_ret
        all_goals exact ⟨rfl, hfin⟩
  · all_goals
        skip
        go_enter Tryz.func73, Tryz.ntmps73
        go_wp2_with fail
        refine (hof.out _).mono ?_
        rintro e w1 ⟨rfl, hb1⟩
        have hal := (Below.refl w1.heap.size w1).alloc (Nat.le_refl _) (.cells #[.int .i64 (fK id), .int .i64 (fW id), .int .i64 (fM id), .int .i64 (fB id), .int .u64 (fT id), .int .u64 (fI id), .int .u64 (fN id)] 73)
        have hr1 := pBlk_made w1 #[.int .i64 (fK id), .int .i64 (fW id), .int .i64 (fM id), .int .i64 (fB id), .int .u64 (fT id), .int .u64 (fI id), .int .u64 (fN id)] 73
        have hB1 := hb1.trans (hal.mono hb1.size)
        obtain ⟨q0, q1, q2, q3, q4, q5, q6⟩ := cells7R hr1
        have ql := hr1.lt
        clear hb1 hal
        go_wp2_with fail
        refine (hpt.out _).mono ?_
        rintro e w2 ⟨rfl, hb2⟩
        have hfin := hB1.trans (hb2.mono hB1.size)
        have hr2 := pBlk_st _ _ _ _ _ hr1 hb2
        clear q0 q1 q2 q3 q4 q5 q6 hb2 hB1 ql hr1
        obtain ⟨q0, q1, q2, q3, q4, q5, q6⟩ := cells7R hr2
        have ql := hr2.lt
        clear hr2
        go_wp2
        all_goals go_ret
        all_goals exact ⟨rfl, hfin⟩
  · rcases hA with ⟨b1, b2, b3⟩ | ⟨b1, b2, b3⟩ | ⟨b1, b2, b3, b4⟩
    all_goals
      rcases hB with ⟨c1, c2, rfl⟩ | ⟨c1, c2, rfl⟩ | ⟨c1, rfl⟩
    all_goals
        skip
        go_enter Tryz.func73, Tryz.ntmps73
        go_wp2_with fail
        refine (hof.out _).mono ?_
        rintro e w1 ⟨rfl, hb1⟩
        have hal := (Below.refl w1.heap.size w1).alloc (Nat.le_refl _) (.cells #[.int .i64 (fK id), .int .i64 (fW id), .int .i64 (fM id), .int .i64 (fB id), .int .u64 (fT id), .int .u64 (fI id), .int .u64 (fN id)] 73)
        have hr1 := pBlk_made w1 #[.int .i64 (fK id), .int .i64 (fW id), .int .i64 (fM id), .int .i64 (fB id), .int .u64 (fT id), .int .u64 (fI id), .int .u64 (fN id)] 73
        have hB1 := hb1.trans (hal.mono hb1.size)
        obtain ⟨q0, q1, q2, q3, q4, q5, q6⟩ := cells7R hr1
        have ql := hr1.lt
        clear hb1 hal
        go_wp2_with fail
        refine (hpt.out _).mono ?_
        rintro e w2 ⟨rfl, hb2⟩
        have hfin := hB1.trans (hb2.mono hB1.size)
        have hr2 := pBlk_st _ _ _ _ _ hr1 hb2
        clear q0 q1 q2 q3 q4 q5 q6 hb2 hB1 ql hr1
        obtain ⟨q0, q1, q2, q3, q4, q5, q6⟩ := cells7R hr2
        have ql := hr2.lt
        clear hr2
        go_wp2
        all_goals go_ret
        all_goals exact ⟨rfl, hfin⟩
  · all_goals
        skip
        go_enter Tryz.func73, Tryz.ntmps73
        go_wp2_with fail
        refine (hof.out _).mono ?_
        rintro e w1 ⟨rfl, hb1⟩
        have hal := (Below.refl w1.heap.size w1).alloc (Nat.le_refl _) (.cells #[.int .i64 (fK id), .int .i64 (fW id), .int .i64 (fM id), .int .i64 (fB id), .int .u64 (fT id), .int .u64 (fI id), .int .u64 (fN id)] 73)
        have hr1 := pBlk_made w1 #[.int .i64 (fK id), .int .i64 (fW id), .int .i64 (fM id), .int .i64 (fB id), .int .u64 (fT id), .int .u64 (fI id), .int .u64 (fN id)] 73
        have hB1 := hb1.trans (hal.mono hb1.size)
        obtain ⟨q0, q1, q2, q3, q4, q5, q6⟩ := cells7R hr1
        have ql := hr1.lt
        clear hb1 hal
        go_wp2_with fail
        refine (hpt.out _).mono ?_
        rintro e w2 ⟨rfl, hb2⟩
        have hfin := hB1.trans (hb2.mono hB1.size)
        have hr2 := pBlk_st _ _ _ _ _ hr1 hb2
        clear q0 q1 q2 q3 q4 q5 q6 hb2 hB1 ql hr1
        obtain ⟨q0, q1, q2, q3, q4, q5, q6⟩ := cells7R hr2
        have ql := hr2.lt
        clear hr2
        go_wp2
        all_goals go_ret
        all_goals exact ⟨rfl, hfin⟩
set_option maxRecDepth 100000 in
set_option maxHeartbeats 8000000 in
theorem rmag7_any (id : Int) (h1 : 1 ≤ id) (h2 : id < 15) (key : Nat) (hk : (key : Int) ≤ fitM id) (h0 : fK id = 1 → 0 < key) (w : World) :
    Calls Tryz.prog 74 #[.agg #[.int .i64 (fK id), .int .i64 (fW id), .int .i64 (fM id), .int .i64 (fB id), .int .u64 (fT id), .int .u64 (fI id), .int .u64 (fN id)], .int .u64 (key : Nat)] w fun e w' => e = .returned (.tuple #[.int .u64 ((magV id 0 key).1 : Nat), .int .i64 (magV id 0 key).2]) ∧ Below w.heap.size w w' := by
  obtain ⟨w1, w2, w3, w4, e1, e2, e3⟩ := fo_wide h1 h2
  obtain ⟨-, kw, k1, k2, k4⟩ := mag_own h1 h2 hk h0
  have hKc : fK id = 1 ∨ fK id = 2 ∨ fK id = 3 ∨ fK id = 4 := by have := fK_bnd id; omega
  clear hk h0
  rcases hKc with hK | hK | hK | hK
  · have b1 : (fK id == 1) = true := by simp [hK]
    obtain ⟨n, hn⟩ : ∃ n, (fW id).toNat + 0 - 1 = n := ⟨_, rfl⟩
    have hkk := k1 hK
    rw [hn] at hkk
    have hv : magV id 0 key = oddP 64 (poF (poL n key) (key % 2 ^ poL n key)) (4 * poR n key + poE (poL n key) (key % 2 ^ poL n key) - (poL n key - 2 : Nat)) := by
      unfold magV numQ
      rw [hK, hn]
      rfl
    have h5 := fun w => rval5_any n key (by omega) (by omega) hkk.1 hkk.2 w
    have hnw : (n : Int) + 1 = fW id := by omega
    rw [← hv, hnw] at h5
    obtain ⟨⟨mv, ev⟩, hP⟩ : ∃ p, magV id 0 key = p := ⟨_, rfl⟩
    rw [hP] at h5 ⊢
    replace h5 := Lib.hid h5
    have hwb : fW id ≤ 64 ∧ 4 ≤ fW id := by omega
    obtain ⟨hwb1, hwb2⟩ := hwb
    clear hv hP hnw hn hkk k1 k2 k4 hK e1 e2 e3 w1 w2 w3 w4 h1 h2
    have hr0 := pBlk_made w #[.int .i64 (fK id), .int .i64 (fW id), .int .i64 (fM id), .int .i64 (fB id), .int .u64 (fT id), .int .u64 (fI id), .int .u64 (fN id)] 73
    have hb0 := (Below.refl w.heap.size w).alloc (Nat.le_refl _) (.cells #[.int .i64 (fK id), .int .i64 (fW id), .int .i64 (fM id), .int .i64 (fB id), .int .u64 (fT id), .int .u64 (fI id), .int .u64 (fN id)] 73)
    obtain ⟨q0, q1, q2, q3, q4, q5, q6⟩ := cells7R hr0
    clear hr0
    go_enter Tryz.func74, Tryz.ntmps74
    go_wp2_with fail
    refine (h5.out _).mono ?_
    rintro e w2 ⟨rfl, hb2⟩
    have hB2 := hb0.trans (hb2.mono hb0.size)
    go_wp2
    exact bodyPost_ret (v := .tuple #[.int .u64 (mv : Nat), .int .i64 ev]) (by simp [results, Tryz.results74, go_sem]) rfl ⟨rfl, hB2⟩
  · have b1 : (fK id == 1) = false := by simp [hK]
    have b2 : (fK id == 2) = true := by simp [hK]
    have hv : magV id 0 key = oddP 64 (miM ((fM id).toNat + 0) key) ((miE ((fM id).toNat + 0) key : Int) - (fB id).toNat - ((fM id).toNat + 0 : Nat)) := by
      unfold magV numQ
      rw [hK]
      rfl
    have h6 := fun w => rval6_any ((fM id).toNat + 0) (fB id).toNat key (by omega) (by omega) kw (k2 hK) w
    have hmm : (((fM id).toNat + 0 : Nat) : Int) = fM id := by omega
    rw [← hv, hmm, ← e3] at h6
    obtain ⟨⟨mv, ev⟩, hP⟩ : ∃ p, magV id 0 key = p := ⟨_, rfl⟩
    rw [hP] at h6 ⊢
    replace h6 := Lib.hid h6
    have hwb : fM id ≤ 64 ∧ 0 ≤ fM id := by omega
    obtain ⟨hwb1, hwb2⟩ := hwb
    clear hv hP hmm k1 k2 k4 hK e1 e2 e3 w1 w2 w3 w4 h1 h2
    have hr0 := pBlk_made w #[.int .i64 (fK id), .int .i64 (fW id), .int .i64 (fM id), .int .i64 (fB id), .int .u64 (fT id), .int .u64 (fI id), .int .u64 (fN id)] 73
    have hb0 := (Below.refl w.heap.size w).alloc (Nat.le_refl _) (.cells #[.int .i64 (fK id), .int .i64 (fW id), .int .i64 (fM id), .int .i64 (fB id), .int .u64 (fT id), .int .u64 (fI id), .int .u64 (fN id)] 73)
    obtain ⟨q0, q1, q2, q3, q4, q5, q6⟩ := cells7R hr0
    clear hr0
    go_enter Tryz.func74, Tryz.ntmps74
    go_wp2_with fail
    refine (h6.out _).mono ?_
    rintro e w2 ⟨rfl, hb2⟩
    have hB2 := hb0.trans (hb2.mono hb0.size)
    go_wp2
    exact bodyPost_ret (v := .tuple #[.int .u64 (mv : Nat), .int .i64 ev]) (by simp [results, Tryz.results74, go_sem]) rfl ⟨rfl, hB2⟩
  · have b1 : (fK id == 1) = false := by simp [hK]
    have b2 : (fK id == 2) = false := by simp [hK]
    have b3 : (fK id == 3) = true := by simp [hK]
    have hv : magV id 0 key = oddP 64 key (-(fM id)) := by
      unfold magV numQ
      rw [hK]
      show oddP 64 key (-(((fM id).toNat + 0 : Nat) : Int)) = _
      congr 1
      omega
    have hod := fun w => rodd7_any key (-(fM id)) kw (by omega) w
    rw [← hv] at hod
    obtain ⟨⟨mv, ev⟩, hP⟩ : ∃ p, magV id 0 key = p := ⟨_, rfl⟩
    rw [hP] at hod ⊢
    replace hod := Lib.hid hod
    have hwb : fM id ≤ 64 ∧ 0 ≤ fM id := by omega
    obtain ⟨hwb1, hwb2⟩ := hwb
    clear hv hP k1 k2 k4 hK e1 e2 e3 w1 w2 w3 w4 h1 h2
    have hr0 := pBlk_made w #[.int .i64 (fK id), .int .i64 (fW id), .int .i64 (fM id), .int .i64 (fB id), .int .u64 (fT id), .int .u64 (fI id), .int .u64 (fN id)] 73
    have hb0 := (Below.refl w.heap.size w).alloc (Nat.le_refl _) (.cells #[.int .i64 (fK id), .int .i64 (fW id), .int .i64 (fM id), .int .i64 (fB id), .int .u64 (fT id), .int .u64 (fI id), .int .u64 (fN id)] 73)
    obtain ⟨q0, q1, q2, q3, q4, q5, q6⟩ := cells7R hr0
    clear hr0
    go_enter Tryz.func74, Tryz.ntmps74
    go_wp2_with fail
    refine (hod.out _).mono ?_
    rintro e w2 ⟨rfl, rfl⟩
    go_wp2
    exact bodyPost_ret (v := .tuple #[.int .u64 (mv : Nat), .int .i64 ev]) (by simp [results, Tryz.results74, go_sem]) rfl ⟨rfl, hb0⟩
  · have b1 : (fK id == 1) = false := by simp [hK]
    have b2 : (fK id == 2) = false := by simp [hK]
    have b3 : (fK id == 3) = false := by simp [hK]
    have hk4 := k4 hK
    have hv : magV id 0 key = (1, (key : Int) - fB id) := by
      unfold magV numQ
      rw [hK]
      show oddP 64 (1 + 2 * 0) (((key / 2 ^ 0 : Nat) : Int) - ((fB id).toNat : Int) - ((0 : Nat) : Int)) = _
      rw [oddP_odd _ _ _ (by omega), show key / 2 ^ 0 = key by omega]
      congr 1
      omega
    rw [hv]
    have hwb : fB id ≤ 2000 ∧ 0 ≤ fB id := by omega
    obtain ⟨hwb1, hwb2⟩ := hwb
    have hkb : key < 10000 := by omega
    clear hv k1 k2 k4 hK e1 e2 e3 w1 w2 w3 w4 h1 h2 hk4
    have hr0 := pBlk_made w #[.int .i64 (fK id), .int .i64 (fW id), .int .i64 (fM id), .int .i64 (fB id), .int .u64 (fT id), .int .u64 (fI id), .int .u64 (fN id)] 73
    have hb0 := (Below.refl w.heap.size w).alloc (Nat.le_refl _) (.cells #[.int .i64 (fK id), .int .i64 (fW id), .int .i64 (fM id), .int .i64 (fB id), .int .u64 (fT id), .int .u64 (fI id), .int .u64 (fN id)] 73)
    obtain ⟨q0, q1, q2, q3, q4, q5, q6⟩ := cells7R hr0
    clear hr0
    go_enter Tryz.func74, Tryz.ntmps74
    go_wp2_with fail
    go_quiet (fail)
    go_wp2
    exact bodyPost_ret (v := .tuple #[.int .u64 ((1 : Nat) : Int), .int .i64 ((key : Int) - fB id)]) (by simp [results, Tryz.results74, go_sem]) rfl ⟨rfl, hb0.trans ⟨rfl, rfl, rfl, by simp, fun _ _ => rfl⟩⟩
end Go.Proofs.YtncfbleeidjflaaGreatDoor
