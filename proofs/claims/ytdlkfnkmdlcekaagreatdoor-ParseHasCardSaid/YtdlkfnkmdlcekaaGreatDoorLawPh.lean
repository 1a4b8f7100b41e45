/- The law ParseHas, walked. Conditions: the variables that values read; the table of powers reads as it is laid. -/
import Derived.Test.YtdlkfnkmdlcekaaGreatDoorNumP
import Derived.Test.YtdlkfnkmdlcekaaGreatDoorShoC
import Derived.Test.YtdlkfnkmdlcekaaGreatDoorFo31
namespace Go.Proofs.YtdlkfnkmdlcekaaGreatDoor
open Go.RowKit Go.Cal
theorem uN_zero {kd wd mn bs : Nat} (h : kd ≤ 3) (h0 : 0 < kd) : uN kd wd mn bs (2 * 0) = 0 := by
  unfold uN
  have h3 : kd = 1 ∨ kd = 2 ∨ kd = 3 := by omega
  rcases h3 with rfl | rfl | rfl
  · rfl
  · simp [miW_zero]
  · simp
/-- What At tells of a magnitude: its number is rounded to it. -/
theorem has_own {id mode : Int} {neg : Bool} {K : Nat} (hE : mostE id neg = 0) (hk : (K : Int) ≤ mostV id neg) :
    ∃ (m : Nat) (e : Int), (if K = 0 ∧ fK id ≠ 4 then (0 : Int) else ((magV id 0 K).1 : Nat)) = (m : Nat) ∧ (if K = 0 ∧ fK id ≠ 4 then (0 : Int) else (magV id 0 K).2) = e ∧ m < 18446744073709551616 ∧ -2000 ≤ e ∧ e ≤ 2000 ∧
      roundP id mode neg (exP m e 0) (exQ e 0) = patV id neg K := by
  obtain ⟨h1, h2, h3⟩ := mostE_zero hE
  have hKb := fK_bnd id
  have hf := (most_fit hE).1
  by_cases h0 : K = 0 ∧ fK id ≠ 4
  · rw [if_pos h0, if_pos h0]
    obtain ⟨rfl, h4⟩ := h0
    refine ⟨0, 0, rfl, rfl, by decide, by decide, by decide, ?_⟩
    refine round_own hE (exQ_pos _ _) hk (.inr (.inr (by simp [exP]))) (fun h => absurd h h4) ?_
    rw [uN_zero (by omega) (by omega)]
    simp [exP]
  · rw [if_neg h0, if_neg h0]
    obtain ⟨a1, a2, a3, a4, a5, a6⟩ := mag_range0 (key := K) h1 h2 (by omega) (fun h => by
      rcases Nat.eq_zero_or_pos K with h5 | h5
      · exact absurd ⟨h5, h⟩ h0
      · exact h5)
    refine ⟨_, _, rfl, rfl, a2, a3, a4, ?_⟩
    refine round_own hE (exQ_pos _ _) hk ?_ (fun _ => exP_pos _ _ a1) (sc_of a5 a6)
    by_cases h5 : fK id = 4
    · exact .inl h5
    · right; left
      rcases Nat.eq_zero_or_pos K with h6 | h6
      · exact absurd ⟨h6, h5⟩ h0
      · exact h6
set_option maxRecDepth 100000 in
set_option maxHeartbeats 2000000 in
theorem parseHas_any (id mode : Int) (neg : Bool) (key : Int) (how : Bool) (w : World) (hW : VaW w) (hT : Tab10 w) (hk : 0 ≤ key ∧ key ≤ 18446744073709551615) : Calls Tryz.prog 10 #[.int .i64 id, .int .i64 mode, .bool neg, .int .u64 key, .bool how] w fun e w' => e = .returned (.bool true) ∧ Below w.heap.size w w' := by
  have hsh := Lib.hid fun w hW => pshown_any w hW
  have hL := LiveP.start w
  have hms := fun w hW => vmost_any id neg w hW
  by_cases hE : mostE id neg = 0
  · obtain ⟨h1, h2, h3⟩ := mostE_zero hE
    have hmr : mostR id neg = mostV id neg := by unfold mostR; rw [if_pos hE]
    rw [hmr, hE] at hms
    by_cases hm : mode ≠ 1 ∧ mode ≠ 2
    · have hm1 : (mode != 1) = true := by simp [hm.1]
      have hm2 : (mode != 2) = true := by simp [hm.2]
      have hv : parV id mode [49] = (0, 0, 1) := by
        have hR : roundE id mode = 1 := by unfold roundE; rw [if_neg (by omega), if_pos hm]
        unfold parV; rw [if_pos (by rw [hR]; decide), hR]
      replace hms := Lib.hid hms
      clear hm
      go_enter Tryz.func10, Tryz.ntmps10
      go_wp2_with fail; refine ((hsh.out _ hW)).mono ?_; rintro ex w1 ⟨rfl, hb⟩; replace hL := hL.go hb; clear hb
      go_wp2_with fail; refine ((hms.out _ (hW.below hL.below))).mono ?_; rintro ex w1 ⟨rfl, hb⟩; replace hL := hL.go hb; clear hb
      go_wp2_with fail; refine ((ptext_is id mode [49] _ 0 0 1 (by first | rfl | kernel_rfl) (by decide) hv (hW.below hL.below))).mono ?_; rintro ex w1 ⟨rfl, hb⟩; replace hL := hL.go hb; clear hb
      go_wp2
      go_ret
      exact ⟨rfl, hL.below⟩
    · have hbn : 0 < mostV id neg ∧ mostV id neg < 18446744073709551615 := by
        refine ⟨(mostV_bnd id neg).1, ?_⟩
        clear hms hm hE h3
        rcases id_cases h1 h2 with rfl | rfl | rfl | rfl | rfl | rfl | rfl | rfl | rfl | rfl | rfl | rfl | rfl | rfl <;> cases neg <;> decide +kernel
      obtain ⟨mv, hmv⟩ : ∃ mv, mostV id neg = mv := ⟨_, rfl⟩
      obtain ⟨K, hK⟩ : ∃ K : Nat, key % (mv + 1) = (K : Int) := ⟨(key % (mv + 1)).toNat, by have := Int.emod_nonneg key (show mv + 1 ≠ 0 by omega); omega⟩
      have hKl : (K : Int) ≤ mostV id neg := by rw [hmv, ← hK]; have := Int.emod_lt_of_pos key (show 0 < mv + 1 by omega); omega
      have hR : roundE id mode = 0 := by unfold roundE; rw [if_neg (by omega), if_neg hm]
      obtain ⟨m, e, em, ee, hm64, he1, he2, hrd⟩ := has_own (mode := mode) hE hKl
      have hat := fun w hW => vat_any id h1 h2 K (by have := (most_fit hE).1; omega) w hW
      have hpt := fun w hW => vpat_any id neg K hE (by omega) hKl w hW
      have hpv := par_has (neg := neg) how hR hm64 ⟨he1, he2⟩
      rw [hrd] at hpv
      rw [em, ee] at hat
      have htx := Lib.hid fun w hT => hasT_any neg m e how hm64 ⟨he1, he2⟩ w hT
      have hlen : (hasT neg m e how).length ≤ 3000 := by
        have hl := (has_len hm64 ⟨he1, he2⟩).1
        have hn1 := numT_len e (by omega)
        have hn2 := numT_len (e - 3) (by omega)
        unfold hasT
        rw [List.length_append, List.length_append]
        have a1 : (if neg = true then ([45] : List UInt8) else []).length ≤ 1 := by cases neg <;> simp
        have a2 : (if 0 ≤ e then (if how = true then ([46, 48, 48] : List UInt8) else [48, 101, 45, 49]) else if how = true then 101 :: numT e else [48, 48, 48] ++ 101 :: numT (e - 3)).length ≤ 30 := by
          split
          · split <;> simp
          · split
            · rw [List.length_cons]; omega
            · rw [List.length_append, List.length_cons]; simp; omega
        omega
      obtain ⟨T, hT0⟩ : ∃ T, hasT neg m e how = T := ⟨_, rfl⟩
      rw [hT0] at hpv htx hlen
      have hpr := fun w hW => ptext_any id mode T (by omega) w hW
      rw [hpv] at hpr
      replace hpr := Lib.hid hpr
      have hof := Lib.hid fun w (hW : VaW w) => fo_of id w hW.frm h1 h2
      have hmm : (mode != 1) = false ∨ ((mode != 1) = true ∧ (mode != 2) = false) := by
        by_cases h : mode = 1
        · left; simp [h]
        · right; refine ⟨by simp [h], ?_⟩; simp; exact Classical.byContradiction fun h' => hm ⟨h, h'⟩
      have hng : (neg = false ∧ (fK id == 4) = true) ∨ (neg = false ∧ (fK id == 4) = false) ∨ (neg = true ∧ (fK id == 4) = false) := by
        cases neg
        · cases (fK id == 4) <;> simp
        · exact .inr (.inr ⟨rfl, by simp [h3 rfl]⟩)
      rw [hmv] at hms hbn
      generalize patV id neg K = P at hpt hpr
      replace hms := Lib.hid hms
      replace hpt := Lib.hid hpt
      replace hat := Lib.hid hat
      clear hKl hm hrd hpv em ee hmv hmr hR hT0 h3 hE
      have hw1 : IntKind.u64.wrap (mv + 1) = mv + 1 := by rw [wrap_u64]; omega
      have hne : ¬ mv + 1 = 0 := by omega
      rcases hmm with m1 | ⟨m1, m2⟩ <;> rcases hng with ⟨rfl, k4⟩ | ⟨rfl, k4⟩ | ⟨rfl, k4⟩
      all_goals
        go_enter Tryz.func10, Tryz.ntmps10
        go_wp2_with fail; refine ((hsh.out _ hW)).mono ?_; rintro ex w1 ⟨rfl, hb⟩; replace hL := hL.go hb; clear hb
        go_wp2_with fail; refine ((hms.out _ (hW.below hL.below))).mono ?_; rintro ex w1 ⟨rfl, hb⟩; replace hL := hL.go hb; clear hb
        go_wp2_with fail; refine ((hpt.out _ (hW.below hL.below))).mono ?_; rintro ex w1 ⟨rfl, hb⟩; replace hL := hL.go hb; clear hb
        go_wp2_with fail; refine ((hat.out _ (hW.below hL.below))).mono ?_; rintro ex w1 ⟨rfl, hb⟩; replace hL := hL.go hb; clear hb
        go_wp2_with fail; refine ((hof.out _ (hW.below hL.below))).mono ?_; rintro ex w1 ⟨rfl, hb⟩; replace hL := hL.go hb; clear hb
        have hq := pBlk_made w1 #[.int .i64 (fK id), .int .i64 (fW id), .int .i64 (fM id), .int .i64 (fB id), .int .u64 (fT id), .int .u64 (fI id), .int .u64 (fN id)] 39
        replace hL := hL.go ((Below.refl _ _).alloc (Nat.le_refl _) (.cells #[.int .i64 (fK id), .int .i64 (fW id), .int .i64 (fM id), .int .i64 (fB id), .int .u64 (fT id), .int .u64 (fI id), .int .u64 (fN id)] 39))
        go_wp2_with fail; refine ((htx.out _ (hT.below hL.below))).mono ?_; rintro ex w1 ⟨rfl, hb⟩; replace hL := hL.go hb; clear hb
        go_wp2_with fail; refine ((hpr.out _ (hW.below hL.below))).mono ?_; rintro ex w1 ⟨rfl, hb⟩; replace hL := hL.go hb; clear hb
        go_wp2
        go_ret
        exact ⟨by simp, hL.below⟩
  · have hE' : (mostE id neg != 0) = true := by simp [hE]
    obtain ⟨pv, hpv⟩ : ∃ pv, parV id mode [49] = pv := ⟨_, rfl⟩
    obtain ⟨p, a, er⟩ := pv
    generalize mostE id neg = E at hms hE'
    replace hms := Lib.hid hms
    clear hE
    go_enter Tryz.func10, Tryz.ntmps10
    go_wp2_with fail; refine ((hsh.out _ hW)).mono ?_; rintro ex w1 ⟨rfl, hb⟩; replace hL := hL.go hb; clear hb
    go_wp2_with fail; refine ((hms.out _ (hW.below hL.below))).mono ?_; rintro ex w1 ⟨rfl, hb⟩; replace hL := hL.go hb; clear hb
    go_wp2_with fail; refine ((ptext_is id mode [49] _ p a er (by first | rfl | kernel_rfl) (by decide) hpv (hW.below hL.below))).mono ?_; rintro ex w1 ⟨rfl, hb⟩; replace hL := hL.go hb; clear hb
    go_wp2
    all_goals
      go_ret
      exact ⟨by simp, hL.below⟩
end Go.Proofs.YtdlkfnkmdlcekaaGreatDoor
