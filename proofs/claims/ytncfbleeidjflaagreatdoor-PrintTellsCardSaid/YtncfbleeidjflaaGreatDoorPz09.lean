/- The document's forms, walked. Conditions: none. -/
import Derived.Test.YtncfbleeidjflaaGreatDoorPz08
namespace Go.Proofs.YtncfbleeidjflaaGreatDoor
open Go.RowKit Go.Cal
theorem ones_pure (k : Nat) : 2 * (2 ^ k - 1 : Int) + 1 = 2 ^ (k + 1) - 1 := by rw [Int.pow_succ]; omega
set_option maxHeartbeats 400000 in
theorem ones_any (n : Int) (w : World) (h0 : 0 ≤ n) (h1 : n ≤ 64) :
    Calls Tryz.prog 98 #[.int .i64 n] w fun e w' => e = .returned (.int .u64 (2 ^ n.toNat - 1)) ∧ w = w' := by
  obtain ⟨m, rfl⟩ := Int.eq_ofNat_of_zero_le h0
  go_enter Tryz.func98, Tryz.ntmps98
  go_wp2
  go_loop [3, 4] (fun x i => ∃ k : Nat, k ≤ m ∧ i = .int .i64 k ∧ x = .int .u64 (2 ^ k - 1)) (fun _ i => m - (intOf i).toNat)
  case atStart => exact ⟨0, by omega, rfl, rfl⟩
  case round =>
    obtain ⟨k, hk, rfl, rfl⟩ := hrel
    by_cases hlt : k < m
    · have hp := Lib.hid (ones_pure k)
      have hq := pow_pos k
      have hq' := pow_le63 k (by omega)
      go_wp2
      rw [hp.out]
      exact ⟨⟨k + 1, by omega, by go_num, rfl⟩, by simp [intOf]; omega⟩
    · obtain rfl : k = m := by omega
      go_wp2
      go_ret
      exact ⟨rfl, rfl⟩
theorem ones_any' (n : Int) (w : World) (h0 : 0 ≤ n) (h1 : n ≤ 64) :
    Calls Tryz.prog 98 #[.int .i64 n] w fun e w' => e = .returned (.int .u64 (2 ^ n.toNat - 1)) ∧ Below w.heap.size w w' :=
  (ones_any n w h0 h1).mono fun _ _ ⟨h, h'⟩ => ⟨h, h' ▸ Below.refl _ _⟩
set_option maxHeartbeats 400000 in
theorem rmask_any (k wi ma bi tp nf na : Int) (w : World) (h0 : 0 ≤ wi) (h1 : wi ≤ 64) :
    Calls Tryz.prog 155 #[.agg #[.int .i64 k, .int .i64 wi, .int .i64 ma, .int .i64 bi, .int .u64 tp, .int .u64 nf, .int .u64 na]] w fun e w' => e = .returned (.int .u64 (2 ^ wi.toNat - 1)) ∧ Below w.heap.size w w' := by
  go_enter Tryz.func155, Tryz.ntmps155
  go_wp2_with fail
  refine (ones_any _ _ h0 h1).mono ?_
  rintro e w1 ⟨rfl, rfl⟩
  go_wp2
  go_ret
  exact ⟨rfl, (Below.refl _ _).alloc (Nat.le_refl _) _⟩
theorem half_pure (n : Nat) (h : n ≤ 63) : IntKind.u64.wrap ((2 ^ (n + 1) - 1 : Int) - (2 ^ n - 1)) = 2 ^ n := by
  have hq := pow_le63 n h
  have hq0 := pow_pos n
  rw [wrap_u64, Int.pow_succ]; omega
set_option maxHeartbeats 400000 in
theorem rsign_yes (k wi ma bi tp nf na : Int) (w : World) (h0 : 1 ≤ wi) (h1 : wi ≤ 64) (hk : k ≠ 4) :
    Calls Tryz.prog 40 #[.agg #[.int .i64 k, .int .i64 wi, .int .i64 ma, .int .i64 bi, .int .u64 tp, .int .u64 nf, .int .u64 na]] w fun e w' => e = .returned (.int .u64 (2 ^ (wi.toNat - 1))) ∧ Below w.heap.size w w' := by
  have cc := fun (u : Later (w.heap.size + 1) (w.alloc (.cells #[.int .i64 k, .int .i64 wi, .int .i64 ma, .int .i64 bi, .int .u64 tp, .int .u64 nf, .int .u64 na] 73))) => u.box7 w 73 _ _ _ _ _ _ _ rfl
  obtain ⟨c0, c1, c2, c3, c4, c5, c6⟩ := forall7 cc
  clear cc
  have hs := half_pure (wi.toNat - 1) (by omega)
  rw [show wi.toNat - 1 + 1 = wi.toNat by omega] at hs
  replace hs := Lib.hid hs
  go_enter Tryz.func40, Tryz.ntmps40
  go_wp2
  refine wp_region_later (B := w.heap.size + 1) (by kernel_rfl) (by kernel_rfl) (Below.refl _ _) ?_
  repeat (go_big_quiet_step ((go_at_call 98; refine Calls.later_of (by simp) (ones_any' _ _ (by omega) (by omega)))))
  refine wpQuiet_nil ?_
  intro w1 hb1
  go_wp2
  go_ret
  refine ⟨?_, ((Below.refl _ _).alloc (Nat.le_refl _) _).trans (hb1.mono (by omega))⟩
  exact ret_int hs.out
theorem rsign_no (wi ma bi tp nf na : Int) (w : World) :
    Calls Tryz.prog 40 #[.agg #[.int .i64 4, .int .i64 wi, .int .i64 ma, .int .i64 bi, .int .u64 tp, .int .u64 nf, .int .u64 na]] w fun e w' => e = .returned (.int .u64 0) ∧ Below w.heap.size w w' := by
  go_enter Tryz.func40, Tryz.ntmps40
  go_wp2
  go_ret
  exact ⟨rfl, ((Below.refl _ _).alloc (Nat.le_refl _) _)⟩

set_option maxHeartbeats 400000 in
theorem signed_5 (w : World) :
    Calls Tryz.prog 99 #[.int .i64 8, .int .i64 3, .int .i64 7, .int .i64 1] w fun e w' => e = .returned (.agg #[.int .i64 2, .int .i64 8, .int .i64 3, .int .i64 7, .int .u64 126, .int .u64 0, .int .u64 127]) ∧ Below w.heap.size w w' := by
  go_enter Tryz.func99, Tryz.ntmps99
  go_wp2_with (go_at_call 98; refine (ones_any _ _ (by omega) (by omega)).mono ?_; rintro e w1 ⟨rfl, rfl⟩)
  refine bodyPost_ret (v := .agg #[.int .i64 2, .int .i64 8, .int .i64 3, .int .i64 7, .int .u64 126, .int .u64 0, .int .u64 127]) (by simp [results, Tryz.results99, go_sem]) rfl ⟨rfl, ?_⟩
  exact ((Below.refl _ _).alloc (Nat.le_refl _) _).alloc (by simp) _
set_option maxHeartbeats 400000 in
theorem signed_7 (w : World) :
    Calls Tryz.prog 99 #[.int .i64 6, .int .i64 2, .int .i64 3, .int .i64 0] w fun e w' => e = .returned (.agg #[.int .i64 2, .int .i64 6, .int .i64 2, .int .i64 3, .int .u64 31, .int .u64 0, .int .u64 0]) ∧ Below w.heap.size w w' := by
  go_enter Tryz.func99, Tryz.ntmps99
  go_wp2_with (go_at_call 98; refine (ones_any _ _ (by omega) (by omega)).mono ?_; rintro e w1 ⟨rfl, rfl⟩)
  refine bodyPost_ret (v := .agg #[.int .i64 2, .int .i64 6, .int .i64 2, .int .i64 3, .int .u64 31, .int .u64 0, .int .u64 0]) (by simp [results, Tryz.results99, go_sem]) rfl ⟨rfl, ?_⟩
  exact ((Below.refl _ _).alloc (Nat.le_refl _) _).alloc (by simp) _
set_option maxHeartbeats 400000 in
theorem signed_8 (w : World) :
    Calls Tryz.prog 99 #[.int .i64 6, .int .i64 3, .int .i64 1, .int .i64 0] w fun e w' => e = .returned (.agg #[.int .i64 2, .int .i64 6, .int .i64 3, .int .i64 1, .int .u64 31, .int .u64 0, .int .u64 0]) ∧ Below w.heap.size w w' := by
  go_enter Tryz.func99, Tryz.ntmps99
  go_wp2_with (go_at_call 98; refine (ones_any _ _ (by omega) (by omega)).mono ?_; rintro e w1 ⟨rfl, rfl⟩)
  refine bodyPost_ret (v := .agg #[.int .i64 2, .int .i64 6, .int .i64 3, .int .i64 1, .int .u64 31, .int .u64 0, .int .u64 0]) (by simp [results, Tryz.results99, go_sem]) rfl ⟨rfl, ?_⟩
  exact ((Below.refl _ _).alloc (Nat.le_refl _) _).alloc (by simp) _
set_option maxHeartbeats 400000 in
theorem signed_9 (w : World) :
    Calls Tryz.prog 99 #[.int .i64 4, .int .i64 1, .int .i64 1, .int .i64 0] w fun e w' => e = .returned (.agg #[.int .i64 2, .int .i64 4, .int .i64 1, .int .i64 1, .int .u64 7, .int .u64 0, .int .u64 0]) ∧ Below w.heap.size w w' := by
  go_enter Tryz.func99, Tryz.ntmps99
  go_wp2_with (go_at_call 98; refine (ones_any _ _ (by omega) (by omega)).mono ?_; rintro e w1 ⟨rfl, rfl⟩)
  refine bodyPost_ret (v := .agg #[.int .i64 2, .int .i64 4, .int .i64 1, .int .i64 1, .int .u64 7, .int .u64 0, .int .u64 0]) (by simp [results, Tryz.results99, go_sem]) rfl ⟨rfl, ?_⟩
  exact ((Below.refl _ _).alloc (Nat.le_refl _) _).alloc (by simp) _
set_option maxHeartbeats 400000 in
theorem signed_6 (w : World) :
    Calls Tryz.prog 99 #[.int .i64 8, .int .i64 2, .int .i64 15, .int .i64 2] w fun e w' => e = .returned (.agg #[.int .i64 2, .int .i64 8, .int .i64 2, .int .i64 15, .int .u64 123, .int .u64 124, .int .u64 126]) ∧ Below w.heap.size w w' := by
  go_enter Tryz.func99, Tryz.ntmps99
  go_wp2_with (go_at_call 98; refine (ones_any _ _ (by omega) (by omega)).mono ?_; rintro e w1 ⟨rfl, rfl⟩)
  go_region_with (go_at_call 98; refine (ones_any _ _ (by omega) (by omega)).mono ?_; rintro e w1 ⟨rfl, rfl⟩)
  all_goals go_wp2
  all_goals
    refine bodyPost_ret (v := .agg #[.int .i64 2, .int .i64 8, .int .i64 2, .int .i64 15, .int .u64 123, .int .u64 124, .int .u64 126]) (by simp [results, Tryz.results99, go_sem]) rfl ⟨rfl, ?_⟩
    exact (((Below.refl _ _).alloc (Nat.le_refl _) _).alloc (by simp) _).drew
set_option maxHeartbeats 400000 in
theorem signed_12 (w : World) :
    Calls Tryz.prog 99 #[.int .i64 16, .int .i64 10, .int .i64 15, .int .i64 2] w fun e w' => e = .returned (.agg #[.int .i64 2, .int .i64 16, .int .i64 10, .int .i64 15, .int .u64 31743, .int .u64 31744, .int .u64 32256]) ∧ Below w.heap.size w w' := by
  go_enter Tryz.func99, Tryz.ntmps99
  go_wp2_with (go_at_call 98; refine (ones_any _ _ (by omega) (by omega)).mono ?_; rintro e w1 ⟨rfl, rfl⟩)
  go_region_with (go_at_call 98; refine (ones_any _ _ (by omega) (by omega)).mono ?_; rintro e w1 ⟨rfl, rfl⟩)
  all_goals go_wp2
  all_goals
    refine bodyPost_ret (v := .agg #[.int .i64 2, .int .i64 16, .int .i64 10, .int .i64 15, .int .u64 31743, .int .u64 31744, .int .u64 32256]) (by simp [results, Tryz.results99, go_sem]) rfl ⟨rfl, ?_⟩
    exact (((Below.refl _ _).alloc (Nat.le_refl _) _).alloc (by simp) _).drew
set_option maxHeartbeats 400000 in
theorem signed_13 (w : World) :
    Calls Tryz.prog 99 #[.int .i64 32, .int .i64 23, .int .i64 127, .int .i64 2] w fun e w' => e = .returned (.agg #[.int .i64 2, .int .i64 32, .int .i64 23, .int .i64 127, .int .u64 2139095039, .int .u64 2139095040, .int .u64 2143289344]) ∧ Below w.heap.size w w' := by
  go_enter Tryz.func99, Tryz.ntmps99
  go_wp2_with (go_at_call 98; refine (ones_any _ _ (by omega) (by omega)).mono ?_; rintro e w1 ⟨rfl, rfl⟩)
  go_region_with (go_at_call 98; refine (ones_any _ _ (by omega) (by omega)).mono ?_; rintro e w1 ⟨rfl, rfl⟩)
  all_goals go_wp2
  all_goals
    refine bodyPost_ret (v := .agg #[.int .i64 2, .int .i64 32, .int .i64 23, .int .i64 127, .int .u64 2139095039, .int .u64 2139095040, .int .u64 2143289344]) (by simp [results, Tryz.results99, go_sem]) rfl ⟨rfl, ?_⟩
    exact (((Below.refl _ _).alloc (Nat.le_refl _) _).alloc (by simp) _).drew
set_option maxHeartbeats 400000 in
theorem signed_14 (w : World) :
    Calls Tryz.prog 99 #[.int .i64 64, .int .i64 52, .int .i64 1023, .int .i64 2] w fun e w' => e = .returned (.agg #[.int .i64 2, .int .i64 64, .int .i64 52, .int .i64 1023, .int .u64 9218868437227405311, .int .u64 9218868437227405312, .int .u64 9221120237041090560]) ∧ Below w.heap.size w w' := by
  go_enter Tryz.func99, Tryz.ntmps99
  go_wp2_with (go_at_call 98; refine (ones_any _ _ (by omega) (by omega)).mono ?_; rintro e w1 ⟨rfl, rfl⟩)
  go_region_with (go_at_call 98; refine (ones_any _ _ (by omega) (by omega)).mono ?_; rintro e w1 ⟨rfl, rfl⟩)
  all_goals go_wp2
  all_goals
    refine bodyPost_ret (v := .agg #[.int .i64 2, .int .i64 64, .int .i64 52, .int .i64 1023, .int .u64 9218868437227405311, .int .u64 9218868437227405312, .int .u64 9221120237041090560]) (by simp [results, Tryz.results99, go_sem]) rfl ⟨rfl, ?_⟩
    exact (((Below.refl _ _).alloc (Nat.le_refl _) _).alloc (by simp) _).drew
theorem fv_1 : Value.agg #[.int .i64 (fK 1), .int .i64 (fW 1), .int .i64 (fM 1), .int .i64 (fB 1), .int .u64 (fT 1), .int .u64 (fI 1), .int .u64 (fN 1)] = .agg #[.int .i64 1, .int .i64 8, .int .i64 0, .int .i64 0, .int .u64 127, .int .u64 0, .int .u64 128] := rfl
theorem fv_2 : Value.agg #[.int .i64 (fK 2), .int .i64 (fW 2), .int .i64 (fM 2), .int .i64 (fB 2), .int .u64 (fT 2), .int .u64 (fI 2), .int .u64 (fN 2)] = .agg #[.int .i64 1, .int .i64 16, .int .i64 0, .int .i64 0, .int .u64 32767, .int .u64 0, .int .u64 32768] := rfl
theorem fv_3 : Value.agg #[.int .i64 (fK 3), .int .i64 (fW 3), .int .i64 (fM 3), .int .i64 (fB 3), .int .u64 (fT 3), .int .u64 (fI 3), .int .u64 (fN 3)] = .agg #[.int .i64 1, .int .i64 32, .int .i64 0, .int .i64 0, .int .u64 2147483647, .int .u64 0, .int .u64 2147483648] := rfl
theorem fv_4 : Value.agg #[.int .i64 (fK 4), .int .i64 (fW 4), .int .i64 (fM 4), .int .i64 (fB 4), .int .u64 (fT 4), .int .u64 (fI 4), .int .u64 (fN 4)] = .agg #[.int .i64 1, .int .i64 64, .int .i64 0, .int .i64 0, .int .u64 9223372036854775807, .int .u64 0, .int .u64 9223372036854775808] := rfl
theorem fv_5 : Value.agg #[.int .i64 (fK 5), .int .i64 (fW 5), .int .i64 (fM 5), .int .i64 (fB 5), .int .u64 (fT 5), .int .u64 (fI 5), .int .u64 (fN 5)] = .agg #[.int .i64 2, .int .i64 8, .int .i64 3, .int .i64 7, .int .u64 126, .int .u64 0, .int .u64 127] := rfl
theorem fv_6 : Value.agg #[.int .i64 (fK 6), .int .i64 (fW 6), .int .i64 (fM 6), .int .i64 (fB 6), .int .u64 (fT 6), .int .u64 (fI 6), .int .u64 (fN 6)] = .agg #[.int .i64 2, .int .i64 8, .int .i64 2, .int .i64 15, .int .u64 123, .int .u64 124, .int .u64 126] := rfl
theorem fv_7 : Value.agg #[.int .i64 (fK 7), .int .i64 (fW 7), .int .i64 (fM 7), .int .i64 (fB 7), .int .u64 (fT 7), .int .u64 (fI 7), .int .u64 (fN 7)] = .agg #[.int .i64 2, .int .i64 6, .int .i64 2, .int .i64 3, .int .u64 31, .int .u64 0, .int .u64 0] := rfl
theorem fv_8 : Value.agg #[.int .i64 (fK 8), .int .i64 (fW 8), .int .i64 (fM 8), .int .i64 (fB 8), .int .u64 (fT 8), .int .u64 (fI 8), .int .u64 (fN 8)] = .agg #[.int .i64 2, .int .i64 6, .int .i64 3, .int .i64 1, .int .u64 31, .int .u64 0, .int .u64 0] := rfl
theorem fv_9 : Value.agg #[.int .i64 (fK 9), .int .i64 (fW 9), .int .i64 (fM 9), .int .i64 (fB 9), .int .u64 (fT 9), .int .u64 (fI 9), .int .u64 (fN 9)] = .agg #[.int .i64 2, .int .i64 4, .int .i64 1, .int .i64 1, .int .u64 7, .int .u64 0, .int .u64 0] := rfl
theorem fv_10 : Value.agg #[.int .i64 (fK 10), .int .i64 (fW 10), .int .i64 (fM 10), .int .i64 (fB 10), .int .u64 (fT 10), .int .u64 (fI 10), .int .u64 (fN 10)] = .agg #[.int .i64 3, .int .i64 8, .int .i64 6, .int .i64 0, .int .u64 127, .int .u64 0, .int .u64 0] := rfl
theorem fv_11 : Value.agg #[.int .i64 (fK 11), .int .i64 (fW 11), .int .i64 (fM 11), .int .i64 (fB 11), .int .u64 (fT 11), .int .u64 (fI 11), .int .u64 (fN 11)] = .agg #[.int .i64 4, .int .i64 8, .int .i64 0, .int .i64 127, .int .u64 254, .int .u64 0, .int .u64 255] := rfl
theorem fv_12 : Value.agg #[.int .i64 (fK 12), .int .i64 (fW 12), .int .i64 (fM 12), .int .i64 (fB 12), .int .u64 (fT 12), .int .u64 (fI 12), .int .u64 (fN 12)] = .agg #[.int .i64 2, .int .i64 16, .int .i64 10, .int .i64 15, .int .u64 31743, .int .u64 31744, .int .u64 32256] := rfl
theorem fv_13 : Value.agg #[.int .i64 (fK 13), .int .i64 (fW 13), .int .i64 (fM 13), .int .i64 (fB 13), .int .u64 (fT 13), .int .u64 (fI 13), .int .u64 (fN 13)] = .agg #[.int .i64 2, .int .i64 32, .int .i64 23, .int .i64 127, .int .u64 2139095039, .int .u64 2139095040, .int .u64 2143289344] := rfl
theorem fv_14 : Value.agg #[.int .i64 (fK 14), .int .i64 (fW 14), .int .i64 (fM 14), .int .i64 (fB 14), .int .u64 (fT 14), .int .u64 (fI 14), .int .u64 (fN 14)] = .agg #[.int .i64 2, .int .i64 64, .int .i64 52, .int .i64 1023, .int .u64 9218868437227405311, .int .u64 9218868437227405312, .int .u64 9221120237041090560] := rfl
set_option maxHeartbeats 400000 in
theorem rof_1 (w : World) :
    Calls Tryz.prog 38 #[.int .i64 1] w fun e w' => e = .returned (.tuple #[.agg #[.int .i64 (fK 1), .int .i64 (fW 1), .int .i64 (fM 1), .int .i64 (fB 1), .int .u64 (fT 1), .int .u64 (fI 1), .int .u64 (fN 1)], .bool true]) ∧ Below w.heap.size w w' := by
  rw [fv_1]
  go_enter Tryz.func38, Tryz.ntmps38
  go_wp2
  refine wp_loop_rounds 5 ?_
  repeat any_goals (rw [rounds_succ]; go_wp2_with (go_at_call 98; refine (ones_any _ _ (by omega) (by omega)).mono ?_; rintro e w1 ⟨rfl, rfl⟩))
  refine bodyPost_ret (v := .tuple #[.agg #[.int .i64 1, .int .i64 8, .int .i64 0, .int .i64 0, .int .u64 127, .int .u64 0, .int .u64 128], .bool true]) (by simp [results, Tryz.results38, go_sem]) rfl ⟨rfl, ?_⟩
  exact (Below.refl _ _).alloc (Nat.le_refl _) _
set_option maxHeartbeats 400000 in
theorem rof_2 (w : World) :
    Calls Tryz.prog 38 #[.int .i64 2] w fun e w' => e = .returned (.tuple #[.agg #[.int .i64 (fK 2), .int .i64 (fW 2), .int .i64 (fM 2), .int .i64 (fB 2), .int .u64 (fT 2), .int .u64 (fI 2), .int .u64 (fN 2)], .bool true]) ∧ Below w.heap.size w w' := by
  rw [fv_2]
  go_enter Tryz.func38, Tryz.ntmps38
  go_wp2
  refine wp_loop_rounds 5 ?_
  repeat any_goals (rw [rounds_succ]; go_wp2_with (go_at_call 98; refine (ones_any _ _ (by omega) (by omega)).mono ?_; rintro e w1 ⟨rfl, rfl⟩))
  refine bodyPost_ret (v := .tuple #[.agg #[.int .i64 1, .int .i64 16, .int .i64 0, .int .i64 0, .int .u64 32767, .int .u64 0, .int .u64 32768], .bool true]) (by simp [results, Tryz.results38, go_sem]) rfl ⟨rfl, ?_⟩
  exact (Below.refl _ _).alloc (Nat.le_refl _) _
set_option maxHeartbeats 400000 in
theorem rof_3 (w : World) :
    Calls Tryz.prog 38 #[.int .i64 3] w fun e w' => e = .returned (.tuple #[.agg #[.int .i64 (fK 3), .int .i64 (fW 3), .int .i64 (fM 3), .int .i64 (fB 3), .int .u64 (fT 3), .int .u64 (fI 3), .int .u64 (fN 3)], .bool true]) ∧ Below w.heap.size w w' := by
  rw [fv_3]
  go_enter Tryz.func38, Tryz.ntmps38
  go_wp2
  refine wp_loop_rounds 5 ?_
  repeat any_goals (rw [rounds_succ]; go_wp2_with (go_at_call 98; refine (ones_any _ _ (by omega) (by omega)).mono ?_; rintro e w1 ⟨rfl, rfl⟩))
  refine bodyPost_ret (v := .tuple #[.agg #[.int .i64 1, .int .i64 32, .int .i64 0, .int .i64 0, .int .u64 2147483647, .int .u64 0, .int .u64 2147483648], .bool true]) (by simp [results, Tryz.results38, go_sem]) rfl ⟨rfl, ?_⟩
  exact (Below.refl _ _).alloc (Nat.le_refl _) _
set_option maxHeartbeats 400000 in
theorem rof_4 (w : World) :
    Calls Tryz.prog 38 #[.int .i64 4] w fun e w' => e = .returned (.tuple #[.agg #[.int .i64 (fK 4), .int .i64 (fW 4), .int .i64 (fM 4), .int .i64 (fB 4), .int .u64 (fT 4), .int .u64 (fI 4), .int .u64 (fN 4)], .bool true]) ∧ Below w.heap.size w w' := by
  rw [fv_4]
  go_enter Tryz.func38, Tryz.ntmps38
  go_wp2
  refine wp_loop_rounds 5 ?_
  repeat any_goals (rw [rounds_succ]; go_wp2_with (go_at_call 98; refine (ones_any _ _ (by omega) (by omega)).mono ?_; rintro e w1 ⟨rfl, rfl⟩))
  refine bodyPost_ret (v := .tuple #[.agg #[.int .i64 1, .int .i64 64, .int .i64 0, .int .i64 0, .int .u64 9223372036854775807, .int .u64 0, .int .u64 9223372036854775808], .bool true]) (by simp [results, Tryz.results38, go_sem]) rfl ⟨rfl, ?_⟩
  exact (Below.refl _ _).alloc (Nat.le_refl _) _
set_option maxHeartbeats 400000 in
theorem rof_5 (w : World) :
    Calls Tryz.prog 38 #[.int .i64 5] w fun e w' => e = .returned (.tuple #[.agg #[.int .i64 (fK 5), .int .i64 (fW 5), .int .i64 (fM 5), .int .i64 (fB 5), .int .u64 (fT 5), .int .u64 (fI 5), .int .u64 (fN 5)], .bool true]) ∧ Below w.heap.size w w' := by
  rw [fv_5]
  go_enter Tryz.func38, Tryz.ntmps38
  go_wp2_with fail
  refine (signed_5 _).mono ?_
  rintro e w1 ⟨rfl, hb⟩
  have hz := hb.size
  simp at hz
  obtain ⟨hc, hf⟩ := bcell hb
  have hg := hf w.heap.size 0 (by simp)
  go_wp2
  refine bodyPost_ret (v := .tuple #[.agg #[.int .i64 2, .int .i64 8, .int .i64 3, .int .i64 7, .int .u64 126, .int .u64 0, .int .u64 127], .bool true]) (by simp [results, Tryz.results38, go_sem, hc]) rfl ⟨rfl, ?_⟩
  have hb0 := ((Below.refl w.heap.size w).alloc (Nat.le_refl _) (.cells #[.int .i64 0, .int .i64 0, .int .i64 0, .int .i64 0, .int .u64 0, .int .u64 0, .int .u64 0] 73)).trans (hb.mono (by simp))
  exact ((((((hb0.setCell (Nat.le_refl _) _).setCell (Nat.le_refl _) _).setCell (Nat.le_refl _) _).setCell (Nat.le_refl _) _).setCell (Nat.le_refl _) _).setCell (Nat.le_refl _) _).setCell (Nat.le_refl _) _
set_option maxHeartbeats 400000 in
theorem rof_6 (w : World) :
    Calls Tryz.prog 38 #[.int .i64 6] w fun e w' => e = .returned (.tuple #[.agg #[.int .i64 (fK 6), .int .i64 (fW 6), .int .i64 (fM 6), .int .i64 (fB 6), .int .u64 (fT 6), .int .u64 (fI 6), .int .u64 (fN 6)], .bool true]) ∧ Below w.heap.size w w' := by
  rw [fv_6]
  go_enter Tryz.func38, Tryz.ntmps38
  go_wp2_with fail
  refine (signed_6 _).mono ?_
  rintro e w1 ⟨rfl, hb⟩
  have hz := hb.size
  simp at hz
  obtain ⟨hc, hf⟩ := bcell hb
  have hg := hf w.heap.size 0 (by simp)
  go_wp2
  refine bodyPost_ret (v := .tuple #[.agg #[.int .i64 2, .int .i64 8, .int .i64 2, .int .i64 15, .int .u64 123, .int .u64 124, .int .u64 126], .bool true]) (by simp [results, Tryz.results38, go_sem, hc]) rfl ⟨rfl, ?_⟩
  have hb0 := ((Below.refl w.heap.size w).alloc (Nat.le_refl _) (.cells #[.int .i64 0, .int .i64 0, .int .i64 0, .int .i64 0, .int .u64 0, .int .u64 0, .int .u64 0] 73)).trans (hb.mono (by simp))
  exact ((((((hb0.setCell (Nat.le_refl _) _).setCell (Nat.le_refl _) _).setCell (Nat.le_refl _) _).setCell (Nat.le_refl _) _).setCell (Nat.le_refl _) _).setCell (Nat.le_refl _) _).setCell (Nat.le_refl _) _
set_option maxHeartbeats 400000 in
theorem rof_7 (w : World) :
    Calls Tryz.prog 38 #[.int .i64 7] w fun e w' => e = .returned (.tuple #[.agg #[.int .i64 (fK 7), .int .i64 (fW 7), .int .i64 (fM 7), .int .i64 (fB 7), .int .u64 (fT 7), .int .u64 (fI 7), .int .u64 (fN 7)], .bool true]) ∧ Below w.heap.size w w' := by
  rw [fv_7]
  go_enter Tryz.func38, Tryz.ntmps38
  go_wp2_with fail
  refine (signed_7 _).mono ?_
  rintro e w1 ⟨rfl, hb⟩
  have hz := hb.size
  simp at hz
  obtain ⟨hc, hf⟩ := bcell hb
  have hg := hf w.heap.size 0 (by simp)
  go_wp2
  refine bodyPost_ret (v := .tuple #[.agg #[.int .i64 2, .int .i64 6, .int .i64 2, .int .i64 3, .int .u64 31, .int .u64 0, .int .u64 0], .bool true]) (by simp [results, Tryz.results38, go_sem, hc]) rfl ⟨rfl, ?_⟩
  have hb0 := ((Below.refl w.heap.size w).alloc (Nat.le_refl _) (.cells #[.int .i64 0, .int .i64 0, .int .i64 0, .int .i64 0, .int .u64 0, .int .u64 0, .int .u64 0] 73)).trans (hb.mono (by simp))
  exact ((((((hb0.setCell (Nat.le_refl _) _).setCell (Nat.le_refl _) _).setCell (Nat.le_refl _) _).setCell (Nat.le_refl _) _).setCell (Nat.le_refl _) _).setCell (Nat.le_refl _) _).setCell (Nat.le_refl _) _
set_option maxHeartbeats 400000 in
theorem rof_8 (w : World) :
    Calls Tryz.prog 38 #[.int .i64 8] w fun e w' => e = .returned (.tuple #[.agg #[.int .i64 (fK 8), .int .i64 (fW 8), .int .i64 (fM 8), .int .i64 (fB 8), .int .u64 (fT 8), .int .u64 (fI 8), .int .u64 (fN 8)], .bool true]) ∧ Below w.heap.size w w' := by
  rw [fv_8]
  go_enter Tryz.func38, Tryz.ntmps38
  go_wp2_with fail
  refine (signed_8 _).mono ?_
  rintro e w1 ⟨rfl, hb⟩
  have hz := hb.size
  simp at hz
  obtain ⟨hc, hf⟩ := bcell hb
  have hg := hf w.heap.size 0 (by simp)
  go_wp2
  refine bodyPost_ret (v := .tuple #[.agg #[.int .i64 2, .int .i64 6, .int .i64 3, .int .i64 1, .int .u64 31, .int .u64 0, .int .u64 0], .bool true]) (by simp [results, Tryz.results38, go_sem, hc]) rfl ⟨rfl, ?_⟩
  have hb0 := ((Below.refl w.heap.size w).alloc (Nat.le_refl _) (.cells #[.int .i64 0, .int .i64 0, .int .i64 0, .int .i64 0, .int .u64 0, .int .u64 0, .int .u64 0] 73)).trans (hb.mono (by simp))
  exact ((((((hb0.setCell (Nat.le_refl _) _).setCell (Nat.le_refl _) _).setCell (Nat.le_refl _) _).setCell (Nat.le_refl _) _).setCell (Nat.le_refl _) _).setCell (Nat.le_refl _) _).setCell (Nat.le_refl _) _
set_option maxHeartbeats 400000 in
theorem rof_9 (w : World) :
    Calls Tryz.prog 38 #[.int .i64 9] w fun e w' => e = .returned (.tuple #[.agg #[.int .i64 (fK 9), .int .i64 (fW 9), .int .i64 (fM 9), .int .i64 (fB 9), .int .u64 (fT 9), .int .u64 (fI 9), .int .u64 (fN 9)], .bool true]) ∧ Below w.heap.size w w' := by
  rw [fv_9]
  go_enter Tryz.func38, Tryz.ntmps38
  go_wp2_with fail
  refine (signed_9 _).mono ?_
  rintro e w1 ⟨rfl, hb⟩
  have hz := hb.size
  simp at hz
  obtain ⟨hc, hf⟩ := bcell hb
  have hg := hf w.heap.size 0 (by simp)
  go_wp2
  refine bodyPost_ret (v := .tuple #[.agg #[.int .i64 2, .int .i64 4, .int .i64 1, .int .i64 1, .int .u64 7, .int .u64 0, .int .u64 0], .bool true]) (by simp [results, Tryz.results38, go_sem, hc]) rfl ⟨rfl, ?_⟩
  have hb0 := ((Below.refl w.heap.size w).alloc (Nat.le_refl _) (.cells #[.int .i64 0, .int .i64 0, .int .i64 0, .int .i64 0, .int .u64 0, .int .u64 0, .int .u64 0] 73)).trans (hb.mono (by simp))
  exact ((((((hb0.setCell (Nat.le_refl _) _).setCell (Nat.le_refl _) _).setCell (Nat.le_refl _) _).setCell (Nat.le_refl _) _).setCell (Nat.le_refl _) _).setCell (Nat.le_refl _) _).setCell (Nat.le_refl _) _
set_option maxHeartbeats 400000 in
theorem rof_12 (w : World) :
    Calls Tryz.prog 38 #[.int .i64 12] w fun e w' => e = .returned (.tuple #[.agg #[.int .i64 (fK 12), .int .i64 (fW 12), .int .i64 (fM 12), .int .i64 (fB 12), .int .u64 (fT 12), .int .u64 (fI 12), .int .u64 (fN 12)], .bool true]) ∧ Below w.heap.size w w' := by
  rw [fv_12]
  go_enter Tryz.func38, Tryz.ntmps38
  go_wp2_with fail
  refine (signed_12 _).mono ?_
  rintro e w1 ⟨rfl, hb⟩
  have hz := hb.size
  simp at hz
  obtain ⟨hc, hf⟩ := bcell hb
  have hg := hf w.heap.size 0 (by simp)
  go_wp2
  refine bodyPost_ret (v := .tuple #[.agg #[.int .i64 2, .int .i64 16, .int .i64 10, .int .i64 15, .int .u64 31743, .int .u64 31744, .int .u64 32256], .bool true]) (by simp [results, Tryz.results38, go_sem, hc]) rfl ⟨rfl, ?_⟩
  have hb0 := ((Below.refl w.heap.size w).alloc (Nat.le_refl _) (.cells #[.int .i64 0, .int .i64 0, .int .i64 0, .int .i64 0, .int .u64 0, .int .u64 0, .int .u64 0] 73)).trans (hb.mono (by simp))
  exact ((((((hb0.setCell (Nat.le_refl _) _).setCell (Nat.le_refl _) _).setCell (Nat.le_refl _) _).setCell (Nat.le_refl _) _).setCell (Nat.le_refl _) _).setCell (Nat.le_refl _) _).setCell (Nat.le_refl _) _
set_option maxHeartbeats 400000 in
theorem rof_13 (w : World) :
    Calls Tryz.prog 38 #[.int .i64 13] w fun e w' => e = .returned (.tuple #[.agg #[.int .i64 (fK 13), .int .i64 (fW 13), .int .i64 (fM 13), .int .i64 (fB 13), .int .u64 (fT 13), .int .u64 (fI 13), .int .u64 (fN 13)], .bool true]) ∧ Below w.heap.size w w' := by
  rw [fv_13]
  go_enter Tryz.func38, Tryz.ntmps38
  go_wp2_with fail
  refine (signed_13 _).mono ?_
  rintro e w1 ⟨rfl, hb⟩
  have hz := hb.size
  simp at hz
  obtain ⟨hc, hf⟩ := bcell hb
  have hg := hf w.heap.size 0 (by simp)
  go_wp2
  refine bodyPost_ret (v := .tuple #[.agg #[.int .i64 2, .int .i64 32, .int .i64 23, .int .i64 127, .int .u64 2139095039, .int .u64 2139095040, .int .u64 2143289344], .bool true]) (by simp [results, Tryz.results38, go_sem, hc]) rfl ⟨rfl, ?_⟩
  have hb0 := ((Below.refl w.heap.size w).alloc (Nat.le_refl _) (.cells #[.int .i64 0, .int .i64 0, .int .i64 0, .int .i64 0, .int .u64 0, .int .u64 0, .int .u64 0] 73)).trans (hb.mono (by simp))
  exact ((((((hb0.setCell (Nat.le_refl _) _).setCell (Nat.le_refl _) _).setCell (Nat.le_refl _) _).setCell (Nat.le_refl _) _).setCell (Nat.le_refl _) _).setCell (Nat.le_refl _) _).setCell (Nat.le_refl _) _
set_option maxHeartbeats 400000 in
theorem rof_14 (w : World) :
    Calls Tryz.prog 38 #[.int .i64 14] w fun e w' => e = .returned (.tuple #[.agg #[.int .i64 (fK 14), .int .i64 (fW 14), .int .i64 (fM 14), .int .i64 (fB 14), .int .u64 (fT 14), .int .u64 (fI 14), .int .u64 (fN 14)], .bool true]) ∧ Below w.heap.size w w' := by
  rw [fv_14]
  go_enter Tryz.func38, Tryz.ntmps38
  go_wp2_with fail
  refine (signed_14 _).mono ?_
  rintro e w1 ⟨rfl, hb⟩
  have hz := hb.size
  simp at hz
  obtain ⟨hc, hf⟩ := bcell hb
  have hg := hf w.heap.size 0 (by simp)
  go_wp2
  refine bodyPost_ret (v := .tuple #[.agg #[.int .i64 2, .int .i64 64, .int .i64 52, .int .i64 1023, .int .u64 9218868437227405311, .int .u64 9218868437227405312, .int .u64 9221120237041090560], .bool true]) (by simp [results, Tryz.results38, go_sem, hc]) rfl ⟨rfl, ?_⟩
  have hb0 := ((Below.refl w.heap.size w).alloc (Nat.le_refl _) (.cells #[.int .i64 0, .int .i64 0, .int .i64 0, .int .i64 0, .int .u64 0, .int .u64 0, .int .u64 0] 73)).trans (hb.mono (by simp))
  exact ((((((hb0.setCell (Nat.le_refl _) _).setCell (Nat.le_refl _) _).setCell (Nat.le_refl _) _).setCell (Nat.le_refl _) _).setCell (Nat.le_refl _) _).setCell (Nat.le_refl _) _).setCell (Nat.le_refl _) _
set_option maxHeartbeats 400000 in
theorem rof_10 (w : World) :
    Calls Tryz.prog 38 #[.int .i64 10] w fun e w' => e = .returned (.tuple #[.agg #[.int .i64 (fK 10), .int .i64 (fW 10), .int .i64 (fM 10), .int .i64 (fB 10), .int .u64 (fT 10), .int .u64 (fI 10), .int .u64 (fN 10)], .bool true]) ∧ Below w.heap.size w w' := by
  rw [fv_10]
  go_enter Tryz.func38, Tryz.ntmps38
  go_wp2
  refine bodyPost_ret (v := .tuple #[.agg #[.int .i64 3, .int .i64 8, .int .i64 6, .int .i64 0, .int .u64 127, .int .u64 0, .int .u64 0], .bool true]) (by simp [results, Tryz.results38, go_sem]) rfl ⟨rfl, ?_⟩
  exact (Below.refl _ _).alloc (Nat.le_refl _) _
set_option maxHeartbeats 400000 in
theorem rof_11 (w : World) :
    Calls Tryz.prog 38 #[.int .i64 11] w fun e w' => e = .returned (.tuple #[.agg #[.int .i64 (fK 11), .int .i64 (fW 11), .int .i64 (fM 11), .int .i64 (fB 11), .int .u64 (fT 11), .int .u64 (fI 11), .int .u64 (fN 11)], .bool true]) ∧ Below w.heap.size w w' := by
  rw [fv_11]
  go_enter Tryz.func38, Tryz.ntmps38
  go_wp2
  refine bodyPost_ret (v := .tuple #[.agg #[.int .i64 4, .int .i64 8, .int .i64 0, .int .i64 127, .int .u64 254, .int .u64 0, .int .u64 255], .bool true]) (by simp [results, Tryz.results38, go_sem]) rfl ⟨rfl, ?_⟩
  exact (Below.refl _ _).alloc (Nat.le_refl _) _
set_option maxHeartbeats 400000 in
theorem rof_no (id : Int) (w : World) (h : id < 1 ∨ 15 ≤ id) :
    Calls Tryz.prog 38 #[.int .i64 id] w fun e w' => e = .returned (.tuple #[.agg #[.int .i64 0, .int .i64 0, .int .i64 0, .int .i64 0, .int .u64 0, .int .u64 0, .int .u64 0], .bool false]) ∧ Below w.heap.size w w' := by
  rcases h with h | h
  all_goals
    go_enter Tryz.func38, Tryz.ntmps38
    go_wp2
    refine bodyPost_ret (v := .tuple #[.agg #[.int .i64 0, .int .i64 0, .int .i64 0, .int .i64 0, .int .u64 0, .int .u64 0, .int .u64 0], .bool false]) (by simp [results, Tryz.results38, go_sem]) rfl ⟨rfl, ?_⟩
    exact (Below.refl _ _).alloc (Nat.le_refl _) _
theorem rof_yes (id : Int) (w : World) (h1 : 1 ≤ id) (h2 : id < 15) :
    Calls Tryz.prog 38 #[.int .i64 id] w fun e w' => e = .returned (.tuple #[.agg #[.int .i64 (fK id), .int .i64 (fW id), .int .i64 (fM id), .int .i64 (fB id), .int .u64 (fT id), .int .u64 (fI id), .int .u64 (fN id)], .bool true]) ∧ Below w.heap.size w w' := by
  rcases id_cases h1 h2 with rfl | rfl | rfl | rfl | rfl | rfl | rfl | rfl | rfl | rfl | rfl | rfl | rfl | rfl
  · exact rof_1 w
  · exact rof_2 w
  · exact rof_3 w
  · exact rof_4 w
  · exact rof_5 w
  · exact rof_6 w
  · exact rof_7 w
  · exact rof_8 w
  · exact rof_9 w
  · exact rof_10 w
  · exact rof_11 w
  · exact rof_12 w
  · exact rof_13 w
  · exact rof_14 w
set_option maxHeartbeats 400000 in
theorem rfits_any (id p : Int) (w : World) :
    Calls Tryz.prog 71 #[.int .i64 id, .int .u64 p] w fun e w' => e = .returned (.int .i64 (fitsV id p)) ∧ Below w.heap.size w w' := by
  by_cases hid : id < 1 ∨ 15 ≤ id
  · have hv := Lib.hid (show fitsV id p = 3 by unfold fitsV; rw [if_pos hid])
    go_enter Tryz.func71, Tryz.ntmps71
    go_wp2_with fail
    refine (rof_no _ _ hid).mono ?_
    rintro e w1 ⟨rfl, hb⟩
    obtain ⟨hc, hf⟩ := bcell hb
    go_wp2
    go_ret
    refine ⟨by rw [hv.out]; rfl, ?_⟩
    exact hb.alloc hb.size _
  · have h1 : 1 ≤ id := by omega
    have h2 : id < 15 := by omega
    clear hid
    obtain ⟨hw0, hw1, -⟩ := ft_bounds id
    by_cases hlt : p < 2 ^ (fW id).toNat
    all_goals
      have hv := Lib.hid (show fitsV id p = _ by unfold fitsV; rw [if_neg (by omega)])
      have hd : decide (2 ^ (fW id).toNat - 1 < p) = decide (¬ p < 2 ^ (fW id).toNat) := by
        rw [decide_eq_decide]; omega
      simp [hlt] at hd
      go_enter Tryz.func71, Tryz.ntmps71
      go_wp2_with fail
      refine (rof_yes _ _ h1 h2).mono ?_
      rintro e w1 ⟨rfl, hb⟩
      obtain ⟨hc, hf⟩ := bcell hb
      have hz := hb.size
      go_wp2_with fail
      refine (rmask_any _ _ _ _ _ _ _ _ hw0 hw1).mono ?_
      rintro e w2 ⟨rfl, hb2⟩
      go_wp2
      go_ret
      refine ⟨by rw [hv.out]; simp [hlt], ?_⟩
      exact (hb.alloc hz _).trans (hb2.mono (by simp; omega))
end Go.Proofs.YtncfbleeidjflaaGreatDoor
