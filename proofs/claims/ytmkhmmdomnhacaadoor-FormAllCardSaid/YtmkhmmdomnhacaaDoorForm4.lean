/- The forms layer, fourth part: the document's Canon; what the statements show in any case. Condition: the table of the forms stands in block 0. -/
import Derived.Test.YtmkhmmdomnhacaaDoorForm3
namespace Go.Proofs.YtmkhmmdomnhacaaDoor
open Go.RowKit Go.Cal
theorem low_hi (p : Int) (n : Nat) (h1 : p < 2 ^ (n + 1)) (h2 : 2 ^ n ≤ p) : p - 2 ^ n = p % 2 ^ n := by
  have hq := pow_pos n
  rw [Int.pow_succ] at h1
  rw [← Int.sub_emod_right, Int.emod_eq_of_lt (by omega) (by omega)]
theorem low_lo (p : Int) (n : Nat) (h0 : 0 ≤ p) (h2 : p < 2 ^ n) : p = p % 2 ^ n := by
  rw [Int.emod_eq_of_lt (by omega) (by omega)]
set_option maxHeartbeats 400000 in
theorem rcanon_hi (id p : Int) (w : World) (hp0 : 0 ≤ p) (hp1 : p < 18446744073709551616) (hk : fK id = 2) (hf0 : fitsV id p = 0) (hs : 2 ^ ((fW id).toNat - 1) ≤ p) :
    Calls Tryd.prog 16 #[.int .i64 id, .int .u64 p] w fun e w' => e = .returned (.tuple #[.int .u64 (canonV id p), .int .i64 (fitsV id p)]) ∧ Below w.heap.size w w' := by
  obtain ⟨h1, h2, hlt⟩ := fitsV_zero hf0
  obtain ⟨hw0, hw1, hw2, -⟩ := ft_bounds id
  have hv := Lib.hid (show canonV id p = (if numB id p = true then p else fN id) by unfold canonV; rw [if_pos hf0]); have hff : (fitsV id p != 0) = false := (by simp [hf0]); have HF := Lib.hid hf0; clear hf0
  have hk2 : (fK id == 2) = true := by simp [hk]
  have hk4 : fK id ≠ 4 := by omega
  have hn := Lib.hid (show numB id p = (decide (p % 2 ^ ((fW id).toNat - 1) ≤ fT id) || (p % 2 ^ ((fW id).toNat - 1) == fI id)) by unfold numB; rw [if_pos hk])
  have HK := Lib.hid hk
  clear hk
  have hm := Lib.hid (low_hi p ((fW id).toNat - 1) (by rw [show (fW id).toNat - 1 + 1 = (fW id).toNat by omega]; exact hlt) hs)
  have hp2 := pow_pos ((fW id).toNat - 1)
  have hwr : IntKind.u64.wrap (p - 2 ^ ((fW id).toNat - 1)) = p - 2 ^ ((fW id).toNat - 1) := by rw [wrap_u64]; omega
  by_cases ht : fT id < p - 2 ^ ((fW id).toNat - 1)
  · by_cases hi : (p - 2 ^ ((fW id).toNat - 1) != fI id) = true
    all_goals
      try replace hi := Bool.eq_false_iff.2 hi
      go_enter Tryd.func16, Tryd.ntmps16
      go_wp2_with fail
      refine (rfits_any _ _ _).mono ?_
      rintro e w1 ⟨rfl, hb1⟩; have hz1 := hb1.size; (try simp at hz1); (try replace hz1 := Nat.lt_of_succ_le hz1); obtain ⟨hc1, hf1⟩ := bcell hb1
      go_wp2_with fail
      refine (rof_yes _ _ h1 h2).mono ?_
      rintro e w2 ⟨rfl, hb2⟩; have hz2 := hb2.size; (try simp at hz2); (try replace hz2 := Nat.lt_of_succ_le hz2); obtain ⟨hc2, hf2⟩ := bcell hb2
      go_wp2_with fail
      refine (rsign_yes _ _ _ _ _ _ _ _ (by omega) hw1 hk4).mono ?_
      rintro e w3 ⟨rfl, hb3⟩; have hz3 := hb3.size; (try simp at hz3); (try replace hz3 := Nat.lt_of_succ_le hz3); obtain ⟨hc3, hf3⟩ := bcell hb3
      go_wp2_with fail
      refine (rsign_yes _ _ _ _ _ _ _ _ (by omega) hw1 hk4).mono ?_
      rintro e w4 ⟨rfl, hb4⟩; have hz4 := hb4.size; (try simp at hz4); (try replace hz4 := Nat.lt_of_succ_le hz4); obtain ⟨hc4, hf4⟩ := bcell hb4
      go_wp2
      go_ret2
      refine ⟨?_, chain (chain (chainA (chain hb1 hb2) _) hb3) hb4⟩
      rw [hv.out, hn.out, HF.out, ← hm.out]
      simp [Int.not_le.2 ht]
      simp at hi
      simp [hi]
  · go_enter Tryd.func16, Tryd.ntmps16
    go_wp2_with fail
    refine (rfits_any _ _ _).mono ?_
    rintro e w1 ⟨rfl, hb1⟩; have hz1 := hb1.size; (try simp at hz1); (try replace hz1 := Nat.lt_of_succ_le hz1); obtain ⟨hc1, hf1⟩ := bcell hb1
    go_wp2_with fail
    refine (rof_yes _ _ h1 h2).mono ?_
    rintro e w2 ⟨rfl, hb2⟩; have hz2 := hb2.size; (try simp at hz2); (try replace hz2 := Nat.lt_of_succ_le hz2); obtain ⟨hc2, hf2⟩ := bcell hb2
    go_wp2_with fail
    refine (rsign_yes _ _ _ _ _ _ _ _ (by omega) hw1 hk4).mono ?_
    rintro e w3 ⟨rfl, hb3⟩; have hz3 := hb3.size; (try simp at hz3); (try replace hz3 := Nat.lt_of_succ_le hz3); obtain ⟨hc3, hf3⟩ := bcell hb3
    go_wp2_with fail
    refine (rsign_yes _ _ _ _ _ _ _ _ (by omega) hw1 hk4).mono ?_
    rintro e w4 ⟨rfl, hb4⟩; have hz4 := hb4.size; (try simp at hz4); (try replace hz4 := Nat.lt_of_succ_le hz4); obtain ⟨hc4, hf4⟩ := bcell hb4
    go_wp2
    go_ret2
    refine ⟨?_, chain (chain (chainA (chain hb1 hb2) _) hb3) hb4⟩
    rw [hv.out, hn.out, HF.out, ← hm.out]
    simp [ht]
set_option maxHeartbeats 400000 in
theorem rcanon_lo (id p : Int) (w : World) (hp0 : 0 ≤ p) (hk : fK id = 2) (hf0 : fitsV id p = 0) (hs : p < 2 ^ ((fW id).toNat - 1)) :
    Calls Tryd.prog 16 #[.int .i64 id, .int .u64 p] w fun e w' => e = .returned (.tuple #[.int .u64 (canonV id p), .int .i64 (fitsV id p)]) ∧ Below w.heap.size w w' := by
  obtain ⟨h1, h2, hlt⟩ := fitsV_zero hf0
  obtain ⟨hw0, hw1, hw2, -⟩ := ft_bounds id
  have hv := Lib.hid (show canonV id p = (if numB id p = true then p else fN id) by unfold canonV; rw [if_pos hf0]); have hff : (fitsV id p != 0) = false := (by simp [hf0]); have HF := Lib.hid hf0; clear hf0
  have hk2 : (fK id == 2) = true := by simp [hk]
  have hk4 : fK id ≠ 4 := by omega
  have hn := Lib.hid (show numB id p = (decide (p % 2 ^ ((fW id).toNat - 1) ≤ fT id) || (p % 2 ^ ((fW id).toNat - 1) == fI id)) by unfold numB; rw [if_pos hk])
  have HK := Lib.hid hk
  clear hk
  have hm := Lib.hid (low_lo p ((fW id).toNat - 1) hp0 hs)
  by_cases ht : fT id < p
  · by_cases hi : (p != fI id) = true
    all_goals
      try replace hi := Bool.eq_false_iff.2 hi
      go_enter Tryd.func16, Tryd.ntmps16
      go_wp2_with fail
      refine (rfits_any _ _ _).mono ?_
      rintro e w1 ⟨rfl, hb1⟩; have hz1 := hb1.size; (try simp at hz1); (try replace hz1 := Nat.lt_of_succ_le hz1); obtain ⟨hc1, hf1⟩ := bcell hb1
      go_wp2_with fail
      refine (rof_yes _ _ h1 h2).mono ?_
      rintro e w2 ⟨rfl, hb2⟩; have hz2 := hb2.size; (try simp at hz2); (try replace hz2 := Nat.lt_of_succ_le hz2); obtain ⟨hc2, hf2⟩ := bcell hb2
      go_wp2_with fail
      refine (rsign_yes _ _ _ _ _ _ _ _ (by omega) hw1 hk4).mono ?_
      rintro e w3 ⟨rfl, hb3⟩; have hz3 := hb3.size; (try simp at hz3); (try replace hz3 := Nat.lt_of_succ_le hz3); obtain ⟨hc3, hf3⟩ := bcell hb3
      go_wp2
      go_ret2
      refine ⟨?_, chain (chainA (chain hb1 hb2) _) hb3⟩
      rw [hv.out, hn.out, HF.out, ← hm.out]
      simp [Int.not_le.2 ht]
      simp at hi
      simp [hi]
  · go_enter Tryd.func16, Tryd.ntmps16
    go_wp2_with fail
    refine (rfits_any _ _ _).mono ?_
    rintro e w1 ⟨rfl, hb1⟩; have hz1 := hb1.size; (try simp at hz1); (try replace hz1 := Nat.lt_of_succ_le hz1); obtain ⟨hc1, hf1⟩ := bcell hb1
    go_wp2_with fail
    refine (rof_yes _ _ h1 h2).mono ?_
    rintro e w2 ⟨rfl, hb2⟩; have hz2 := hb2.size; (try simp at hz2); (try replace hz2 := Nat.lt_of_succ_le hz2); obtain ⟨hc2, hf2⟩ := bcell hb2
    go_wp2_with fail
    refine (rsign_yes _ _ _ _ _ _ _ _ (by omega) hw1 hk4).mono ?_
    rintro e w3 ⟨rfl, hb3⟩; have hz3 := hb3.size; (try simp at hz3); (try replace hz3 := Nat.lt_of_succ_le hz3); obtain ⟨hc3, hf3⟩ := bcell hb3
    go_wp2
    go_ret2
    refine ⟨?_, chain (chainA (chain hb1 hb2) _) hb3⟩
    rw [hv.out, hn.out, HF.out, ← hm.out]
    simp [ht]
set_option maxHeartbeats 400000 in
theorem rcanon_any (id p : Int) (w : World) (hp0 : 0 ≤ p) (hp1 : p < 18446744073709551616) :
    Calls Tryd.prog 16 #[.int .i64 id, .int .u64 p] w fun e w' => e = .returned (.tuple #[.int .u64 (canonV id p), .int .i64 (fitsV id p)]) ∧ Below w.heap.size w w' := by
  by_cases hf0 : fitsV id p = 0
  · by_cases hk : fK id = 2
    · by_cases hs : 2 ^ ((fW id).toNat - 1) ≤ p
      · exact rcanon_hi id p w hp0 hp1 hk hf0 hs
      · exact rcanon_lo id p w hp0 hk hf0 (Int.not_le.1 hs)
    · obtain ⟨h1, h2, hlt⟩ := fitsV_zero hf0
      have hn := Lib.hid (show numB id p = ((fN id == 0) || p != fN id) by unfold numB; rw [if_neg hk])
      have hv := Lib.hid (show canonV id p = (if numB id p = true then p else fN id) by unfold canonV; rw [if_pos hf0]); have hff : (fitsV id p != 0) = false := (by simp [hf0]); have HF := Lib.hid hf0; clear hf0
      have hk2 : (fK id == 2) = false := by simp [hk]
      clear hk
      go_enter Tryd.func16, Tryd.ntmps16
      go_wp2_with fail
      refine (rfits_any _ _ _).mono ?_
      rintro e w1 ⟨rfl, hb1⟩; have hz1 := hb1.size; (try simp at hz1); (try replace hz1 := Nat.lt_of_succ_le hz1); obtain ⟨hc1, hf1⟩ := bcell hb1
      go_wp2_with fail
      refine (rof_yes _ _ h1 h2).mono ?_
      rintro e w2 ⟨rfl, hb2⟩; have hz2 := hb2.size; (try simp at hz2); (try replace hz2 := Nat.lt_of_succ_le hz2); obtain ⟨hc2, hf2⟩ := bcell hb2
      go_wp2
      go_ret2
      refine ⟨?_, chainA (chain hb1 hb2) _⟩
      rw [hv.out, hn.out, HF.out]
      by_cases hq : p = fN id
      · simp [hq]
      · simp [hq]
  · have hff : (fitsV id p != 0) = true := by simp [hf0]
    have hv := Lib.hid (show canonV id p = 0 by unfold canonV; rw [if_neg hf0])
    clear hf0
    go_enter Tryd.func16, Tryd.ntmps16
    go_wp2_with fail
    refine (rfits_any _ _ _).mono ?_
    rintro e w1 ⟨rfl, hb⟩
    go_wp2
    go_ret2
    exact ⟨by rw [hv.out]; rfl, hb⟩
set_option maxHeartbeats 400000 in
theorem shown_any (w : World) (hT : TabF w) :
    Calls Tryd.prog 8 #[] w fun e w' => e = .returned (.bool true) ∧ Below w.heap.size w w' := by
  have q1 := Lib.hid (show (canonV 6 255 = 126 ∧ canonV 6 252 = 252 ∧ fitsV 6 255 = 0 ∧ fitsV 6 252 = 0 ∧ fitsV 9 16 = 1 ∧ fT 6 = 123 ∧ fI 6 = 124) by decide +kernel)
  go_enter Tryd.func8, Tryd.ntmps8
  go_wp2_with fail
  refine (of_yes _ _ hT (by omega) (by omega)).mono ?_
  rintro e w1 ⟨rfl, hb1⟩; have hz1 := hb1.size; (try simp at hz1); (try replace hz1 := Nat.lt_of_succ_le hz1); obtain ⟨hc1, hf1⟩ := bcell hb1
  have hT1 := (hT.below hb1).alloc (.cells #[.int .i64 (fK 6), .int .i64 (fW 6), .int .i64 (fM 6), .int .i64 (fB 6), .int .u64 (fT 6), .int .u64 (fI 6), .int .u64 (fN 6)] 25)
  go_wp2_with fail
  refine (canon_any _ _ _ hT1 (by omega) (by omega)).mono ?_
  rintro e w2 ⟨rfl, hb2⟩; have hz2 := hb2.size; (try simp at hz2); (try replace hz2 := Nat.lt_of_succ_le hz2); obtain ⟨hc2, hf2⟩ := bcell hb2
  have hT2 := hT1.below hb2
  go_wp2_with fail
  refine (canon_any _ _ _ hT2 (by omega) (by omega)).mono ?_
  rintro e w3 ⟨rfl, hb3⟩; have hz3 := hb3.size; (try simp at hz3); (try replace hz3 := Nat.lt_of_succ_le hz3); obtain ⟨hc3, hf3⟩ := bcell hb3
  have hT3 := hT2.below hb3
  obtain ⟨a1, a2, a3, a4, a5, a6, a7⟩ := q1.out
  go_wp2_with fail
  refine (fits_any _ _ _ hT3 (by omega) (by omega)).mono ?_
  rintro e w4 ⟨rfl, hb4⟩
  go_wp2
  go_ret
  exact ⟨rfl, chain (chain (chain (chainA hb1 _) hb2) hb3) hb4⟩
end Go.Proofs.YtmkhmmdomnhacaaDoor
