/- The forms layer, second part: Canon, and the document's answer. Condition: the table of the forms stands in block 0. -/
import Derived.Test.YtmkhmmdomnhacaaDoorForm
namespace Go.Proofs.YtmkhmmdomnhacaaDoor
open Go.RowKit Go.Cal
/-- What Canon tells. -/
def canonV (id p : Int) : Int := if fitsV id p = 0 then (if numB id p = true then p else fN id) else 0
theorem fitsV_zero {id p : Int} (h : fitsV id p = 0) : 1 ≤ id ∧ id < 15 ∧ p < 2 ^ (fW id).toNat := by
  unfold fitsV at h
  split at h
  · omega
  · split at h
    · exact ⟨by omega, by omega, by assumption⟩
    · omega
set_option maxHeartbeats 400000 in
theorem canon_any (id p : Int) (w : World) (hT : TabF w) (hp0 : 0 ≤ p) (hp1 : p < 18446744073709551616) :
    Calls Tryd.prog 15 #[.int .i64 id, .int .u64 p] w fun e w' => e = .returned (.tuple #[.int .u64 (canonV id p), .int .i64 (fitsV id p)]) ∧ Below w.heap.size w w' := by
  by_cases hf0 : fitsV id p = 0
  · obtain ⟨h1, h2, hlt⟩ := fitsV_zero hf0
    obtain ⟨hz, hT'⟩ := hT
    obtain ⟨c0, c1, c2, c3, c4, c5, c6⟩ := hT' id h1 h2
    have hT : TabF w := ⟨hz, hT'⟩
    clear hT'
    have hv := Lib.hid (show canonV id p = (if numB id p = true then p else fN id) by unfold canonV; rw [if_pos hf0])
    have hff : (fitsV id p != 0) = false := by simp [hf0]
    have HF := Lib.hid hf0
    clear hf0
    by_cases hn : numB id p = true
    all_goals
      try replace hn := Bool.eq_false_iff.2 hn
      go_enter Tryd.func15, Tryd.ntmps15
      go_wp2_with fail
      refine (fits_any _ _ _ hT hp0 hp1).mono ?_
      rintro e w1 ⟨rfl, hb⟩
      obtain ⟨hc, hf⟩ := bcell hb
      have hz1 := hb.size
      go_wp2_with fail
      refine (number_any _ _ _ hp0 hlt).mono ?_
      rintro e w2 ⟨rfl, hb2⟩
      obtain ⟨hc2, hf2⟩ := bcell hb2
      have hz2 := hb2.size
      go_wp2
      go_ret2
      refine ⟨by rw [hv.out, HF.out]; simp [hn], (hb.alloc hz1 _).trans (hb2.mono (by simp; omega))⟩
  · have hff : (fitsV id p != 0) = true := by simp [hf0]
    have hv := Lib.hid (show canonV id p = 0 by unfold canonV; rw [if_neg hf0])
    clear hf0
    go_enter Tryd.func15, Tryd.ntmps15
    go_wp2_with fail
    refine (fits_any _ _ _ hT hp0 hp1).mono ?_
    rintro e w1 ⟨rfl, hb⟩
    go_wp2
    go_ret2
    exact ⟨by rw [hv.out]; rfl, hb⟩

/-! The document's answer. -/
theorem ones_pure (k : Nat) : 2 * (2 ^ k - 1 : Int) + 1 = 2 ^ (k + 1) - 1 := by rw [Int.pow_succ]; omega
set_option maxHeartbeats 400000 in
theorem ones_any (n : Int) (w : World) (h0 : 0 ≤ n) (h1 : n ≤ 64) :
    Calls Tryd.prog 20 #[.int .i64 n] w fun e w' => e = .returned (.int .u64 (2 ^ n.toNat - 1)) ∧ w = w' := by
  obtain ⟨m, rfl⟩ := Int.eq_ofNat_of_zero_le h0
  go_enter Tryd.func20, Tryd.ntmps20
  go_wp2
  go_loop [3, 4] (fun x i => ∃ k : Nat, k ≤ m ∧ i = .int .i64 k ∧ x = .int .u64 (2 ^ k - 1)) (fun _ i => m - (intOf i).toNat)
  case atStart => exact ⟨0, by omega, rfl, rfl⟩
  case round =>
    obtain ⟨k, hk, rfl, rfl⟩ := hrel
    by_cases hlt : k < m
    · have hp := Lib.hid (ones_pure k)
      have hq := pow_pos k
      have hq' := pow_le63 k (by omega)
      go_wp2
      rw [hp.out]
      exact ⟨⟨k + 1, by omega, by go_num, rfl⟩, by simp [intOf]; omega⟩
    · obtain rfl : k = m := by omega
      go_wp2
      go_ret
      exact ⟨rfl, rfl⟩
theorem ones_any' (n : Int) (w : World) (h0 : 0 ≤ n) (h1 : n ≤ 64) :
    Calls Tryd.prog 20 #[.int .i64 n] w fun e w' => e = .returned (.int .u64 (2 ^ n.toNat - 1)) ∧ Below w.heap.size w w' :=
  (ones_any n w h0 h1).mono fun _ _ ⟨h, h'⟩ => ⟨h, h' ▸ Below.refl _ _⟩
set_option maxHeartbeats 400000 in
theorem rmask_any (k wi ma bi tp nf na : Int) (w : World) (h0 : 0 ≤ wi) (h1 : wi ≤ 64) :
    Calls Tryd.prog 12 #[.agg #[.int .i64 k, .int .i64 wi, .int .i64 ma, .int .i64 bi, .int .u64 tp, .int .u64 nf, .int .u64 na]] w fun e w' => e = .returned (.int .u64 (2 ^ wi.toNat - 1)) ∧ Below w.heap.size w w' := by
  go_enter Tryd.func12, Tryd.ntmps12
  go_wp2_with fail
  refine (ones_any _ _ h0 h1).mono ?_
  rintro e w1 ⟨rfl, rfl⟩
  go_wp2
  go_ret
  exact ⟨rfl, (Below.refl _ _).alloc (Nat.le_refl _) _⟩
theorem half_pure (n : Nat) (h : n ≤ 63) : IntKind.u64.wrap ((2 ^ (n + 1) - 1 : Int) - (2 ^ n - 1)) = 2 ^ n := by
  have hq := pow_le63 n h
  have hq0 := pow_pos n
  rw [wrap_u64, Int.pow_succ]; omega
set_option maxHeartbeats 400000 in
theorem rsign_yes (k wi ma bi tp nf na : Int) (w : World) (h0 : 1 ≤ wi) (h1 : wi ≤ 64) (hk : k ≠ 4) :
    Calls Tryd.prog 14 #[.agg #[.int .i64 k, .int .i64 wi, .int .i64 ma, .int .i64 bi, .int .u64 tp, .int .u64 nf, .int .u64 na]] w fun e w' => e = .returned (.int .u64 (2 ^ (wi.toNat - 1))) ∧ Below w.heap.size w w' := by
  have cc := fun (u : Later (w.heap.size + 1) (w.alloc (.cells #[.int .i64 k, .int .i64 wi, .int .i64 ma, .int .i64 bi, .int .u64 tp, .int .u64 nf, .int .u64 na] 29))) => u.box7 w 29 _ _ _ _ _ _ _ rfl
  obtain ⟨c0, c1, c2, c3, c4, c5, c6⟩ := forall7 cc
  clear cc
  have hs := half_pure (wi.toNat - 1) (by omega)
  rw [show wi.toNat - 1 + 1 = wi.toNat by omega] at hs
  replace hs := Lib.hid hs
  go_enter Tryd.func14, Tryd.ntmps14
  go_wp2
  refine wp_region_later (B := w.heap.size + 1) (by kernel_rfl) (by kernel_rfl) (Below.refl _ _) ?_
  repeat (go_big_quiet_step ((go_at_call 20; refine Calls.later_of (by simp) (ones_any' _ _ (by omega) (by omega)))))
  refine wpQuiet_nil ?_
  intro w1 hb1
  go_wp2
  go_ret
  refine ⟨?_, ((Below.refl _ _).alloc (Nat.le_refl _) _).trans (hb1.mono (by omega))⟩
  exact ret_int hs.out
theorem rsign_no (wi ma bi tp nf na : Int) (w : World) :
    Calls Tryd.prog 14 #[.agg #[.int .i64 4, .int .i64 wi, .int .i64 ma, .int .i64 bi, .int .u64 tp, .int .u64 nf, .int .u64 na]] w fun e w' => e = .returned (.int .u64 0) ∧ Below w.heap.size w w' := by
  go_enter Tryd.func14, Tryd.ntmps14
  go_wp2
  go_ret
  exact ⟨rfl, ((Below.refl _ _).alloc (Nat.le_refl _) _)⟩

set_option maxHeartbeats 400000 in
theorem signed_5 (w : World) :
    Calls Tryd.prog 21 #[.int .i64 8, .int .i64 3, .int .i64 7, .int .i64 1] w fun e w' => e = .returned (.agg #[.int .i64 2, .int .i64 8, .int .i64 3, .int .i64 7, .int .u64 126, .int .u64 0, .int .u64 127]) ∧ Below w.heap.size w w' := by
  go_enter Tryd.func21, Tryd.ntmps21
  go_wp2_with (go_at_call 20; refine (ones_any _ _ (by omega) (by omega)).mono ?_; rintro e w1 ⟨rfl, rfl⟩)
  refine bodyPost_ret (v := .agg #[.int .i64 2, .int .i64 8, .int .i64 3, .int .i64 7, .int .u64 126, .int .u64 0, .int .u64 127]) (by simp [results, Tryd.results21, go_sem]) rfl ⟨rfl, ?_⟩
  exact ((Below.refl _ _).alloc (Nat.le_refl _) _).alloc (by simp) _
set_option maxHeartbeats 400000 in
theorem signed_7 (w : World) :
    Calls Tryd.prog 21 #[.int .i64 6, .int .i64 2, .int .i64 3, .int .i64 0] w fun e w' => e = .returned (.agg #[.int .i64 2, .int .i64 6, .int .i64 2, .int .i64 3, .int .u64 31, .int .u64 0, .int .u64 0]) ∧ Below w.heap.size w w' := by
  go_enter Tryd.func21, Tryd.ntmps21
  go_wp2_with (go_at_call 20; refine (ones_any _ _ (by omega) (by omega)).mono ?_; rintro e w1 ⟨rfl, rfl⟩)
  refine bodyPost_ret (v := .agg #[.int .i64 2, .int .i64 6, .int .i64 2, .int .i64 3, .int .u64 31, .int .u64 0, .int .u64 0]) (by simp [results, Tryd.results21, go_sem]) rfl ⟨rfl, ?_⟩
  exact ((Below.refl _ _).alloc (Nat.le_refl _) _).alloc (by simp) _
set_option maxHeartbeats 400000 in
theorem signed_8 (w : World) :
    Calls Tryd.prog 21 #[.int .i64 6, .int .i64 3, .int .i64 1, .int .i64 0] w fun e w' => e = .returned (.agg #[.int .i64 2, .int .i64 6, .int .i64 3, .int .i64 1, .int .u64 31, .int .u64 0, .int .u64 0]) ∧ Below w.heap.size w w' := by
  go_enter Tryd.func21, Tryd.ntmps21
  go_wp2_with (go_at_call 20; refine (ones_any _ _ (by omega) (by omega)).mono ?_; rintro e w1 ⟨rfl, rfl⟩)
  refine bodyPost_ret (v := .agg #[.int .i64 2, .int .i64 6, .int .i64 3, .int .i64 1, .int .u64 31, .int .u64 0, .int .u64 0]) (by simp [results, Tryd.results21, go_sem]) rfl ⟨rfl, ?_⟩
  exact ((Below.refl _ _).alloc (Nat.le_refl _) _).alloc (by simp) _
set_option maxHeartbeats 400000 in
theorem signed_9 (w : World) :
    Calls Tryd.prog 21 #[.int .i64 4, .int .i64 1, .int .i64 1, .int .i64 0] w fun e w' => e = .returned (.agg #[.int .i64 2, .int .i64 4, .int .i64 1, .int .i64 1, .int .u64 7, .int .u64 0, .int .u64 0]) ∧ Below w.heap.size w w' := by
  go_enter Tryd.func21, Tryd.ntmps21
  go_wp2_with (go_at_call 20; refine (ones_any _ _ (by omega) (by omega)).mono ?_; rintro e w1 ⟨rfl, rfl⟩)
  refine bodyPost_ret (v := .agg #[.int .i64 2, .int .i64 4, .int .i64 1, .int .i64 1, .int .u64 7, .int .u64 0, .int .u64 0]) (by simp [results, Tryd.results21, go_sem]) rfl ⟨rfl, ?_⟩
  exact ((Below.refl _ _).alloc (Nat.le_refl _) _).alloc (by simp) _
set_option maxHeartbeats 400000 in
theorem signed_6 (w : World) :
    Calls Tryd.prog 21 #[.int .i64 8, .int .i64 2, .int .i64 15, .int .i64 2] w fun e w' => e = .returned (.agg #[.int .i64 2, .int .i64 8, .int .i64 2, .int .i64 15, .int .u64 123, .int .u64 124, .int .u64 126]) ∧ Below w.heap.size w w' := by
  go_enter Tryd.func21, Tryd.ntmps21
  go_wp2_with (go_at_call 20; refine (ones_any _ _ (by omega) (by omega)).mono ?_; rintro e w1 ⟨rfl, rfl⟩)
  go_region_with (go_at_call 20; refine (ones_any _ _ (by omega) (by omega)).mono ?_; rintro e w1 ⟨rfl, rfl⟩)
  all_goals go_wp2
  all_goals
    refine bodyPost_ret (v := .agg #[.int .i64 2, .int .i64 8, .int .i64 2, .int .i64 15, .int .u64 123, .int .u64 124, .int .u64 126]) (by simp [results, Tryd.results21, go_sem]) rfl ⟨rfl, ?_⟩
    exact (((Below.refl _ _).alloc (Nat.le_refl _) _).alloc (by simp) _).drew
set_option maxHeartbeats 400000 in
theorem signed_12 (w : World) :
    Calls Tryd.prog 21 #[.int .i64 16, .int .i64 10, .int .i64 15, .int .i64 2] w fun e w' => e = .returned (.agg #[.int .i64 2, .int .i64 16, .int .i64 10, .int .i64 15, .int .u64 31743, .int .u64 31744, .int .u64 32256]) ∧ Below w.heap.size w w' := by
  go_enter Tryd.func21, Tryd.ntmps21
  go_wp2_with (go_at_call 20; refine (ones_any _ _ (by omega) (by omega)).mono ?_; rintro e w1 ⟨rfl, rfl⟩)
  go_region_with (go_at_call 20; refine (ones_any _ _ (by omega) (by omega)).mono ?_; rintro e w1 ⟨rfl, rfl⟩)
  all_goals go_wp2
  all_goals
    refine bodyPost_ret (v := .agg #[.int .i64 2, .int .i64 16, .int .i64 10, .int .i64 15, .int .u64 31743, .int .u64 31744, .int .u64 32256]) (by simp [results, Tryd.results21, go_sem]) rfl ⟨rfl, ?_⟩
    exact (((Below.refl _ _).alloc (Nat.le_refl _) _).alloc (by simp) _).drew
set_option maxHeartbeats 400000 in
theorem signed_13 (w : World) :
    Calls Tryd.prog 21 #[.int .i64 32, .int .i64 23, .int .i64 127, .int .i64 2] w fun e w' => e = .returned (.agg #[.int .i64 2, .int .i64 32, .int .i64 23, .int .i64 127, .int .u64 2139095039, .int .u64 2139095040, .int .u64 2143289344]) ∧ Below w.heap.size w w' := by
  go_enter Tryd.func21, Tryd.ntmps21
  go_wp2_with (go_at_call 20; refine (ones_any _ _ (by omega) (by omega)).mono ?_; rintro e w1 ⟨rfl, rfl⟩)
  go_region_with (go_at_call 20; refine (ones_any _ _ (by omega) (by omega)).mono ?_; rintro e w1 ⟨rfl, rfl⟩)
  all_goals go_wp2
  all_goals
    refine bodyPost_ret (v := .agg #[.int .i64 2, .int .i64 32, .int .i64 23, .int .i64 127, .int .u64 2139095039, .int .u64 2139095040, .int .u64 2143289344]) (by simp [results, Tryd.results21, go_sem]) rfl ⟨rfl, ?_⟩
    exact (((Below.refl _ _).alloc (Nat.le_refl _) _).alloc (by simp) _).drew
set_option maxHeartbeats 400000 in
theorem signed_14 (w : World) :
    Calls Tryd.prog 21 #[.int .i64 64, .int .i64 52, .int .i64 1023, .int .i64 2] w fun e w' => e = .returned (.agg #[.int .i64 2, .int .i64 64, .int .i64 52, .int .i64 1023, .int .u64 9218868437227405311, .int .u64 9218868437227405312, .int .u64 9221120237041090560]) ∧ Below w.heap.size w w' := by
  go_enter Tryd.func21, Tryd.ntmps21
  go_wp2_with (go_at_call 20; refine (ones_any _ _ (by omega) (by omega)).mono ?_; rintro e w1 ⟨rfl, rfl⟩)
  go_region_with (go_at_call 20; refine (ones_any _ _ (by omega) (by omega)).mono ?_; rintro e w1 ⟨rfl, rfl⟩)
  all_goals go_wp2
  all_goals
    refine bodyPost_ret (v := .agg #[.int .i64 2, .int .i64 64, .int .i64 52, .int .i64 1023, .int .u64 9218868437227405311, .int .u64 9218868437227405312, .int .u64 9221120237041090560]) (by simp [results, Tryd.results21, go_sem]) rfl ⟨rfl, ?_⟩
    exact (((Below.refl _ _).alloc (Nat.le_refl _) _).alloc (by simp) _).drew
end Go.Proofs.YtmkhmmdomnhacaaDoor
