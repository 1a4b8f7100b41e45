/- What the statement wants beyond its base. Conditions: none. -/
import Derived.Test.YtobokaafmcfeaaaGreatDoorSk00
import Derived.Test.YtobokaafmcfeaaaGreatDoorSk01
import Derived.Test.YtobokaafmcfeaaaGreatDoorSk02
import Derived.Test.YtobokaafmcfeaaaGreatDoorSk03
import Derived.Test.YtobokaafmcfeaaaGreatDoorSk04
import Derived.Test.YtobokaafmcfeaaaGreatDoorSk05
import Derived.Test.YtobokaafmcfeaaaGreatDoorSk06
import Derived.Test.YtobokaafmcfeaaaGreatDoorSk07
import Derived.Test.YtobokaafmcfeaaaGreatDoorSk08
import Derived.Test.YtobokaafmcfeaaaGreatDoorSk09
import Derived.Test.YtobokaafmcfeaaaGreatDoorSk10
import Derived.Test.YtobokaafmcfeaaaGreatDoorSk11
import Derived.Test.YtobokaafmcfeaaaGreatDoorSk12
import Derived.Test.YtobokaafmcfeaaaGreatDoorSk13
import Derived.Test.YtobokaafmcfeaaaGreatDoorSk14
import Derived.Test.YtobokaafmcfeaaaGreatDoorSk15
import Derived.Test.YtobokaafmcfeaaaGreatDoorSk16
import Derived.Test.YtobokaafmcfeaaaGreatDoorSk17
import Derived.Test.YtobokaafmcfeaaaGreatDoorSk18
import Derived.Test.YtobokaafmcfeaaaGreatDoorSk19
import Derived.Test.YtobokaafmcfeaaaGreatDoorSk20
import Derived.Test.YtobokaafmcfeaaaGreatDoorSk21
import Derived.Test.YtobokaafmcfeaaaGreatDoorSk22
import Derived.Test.YtobokaafmcfeaaaGreatDoorSk23
import Derived.Test.YtobokaafmcfeaaaGreatDoorSk24
import Derived.Test.YtobokaafmcfeaaaGreatDoorSk25
import Derived.Test.YtobokaafmcfeaaaGreatDoorSk26
import Derived.Test.YtobokaafmcfeaaaGreatDoorSk27
import Derived.Test.YtobokaafmcfeaaaGreatDoorSk28
import Derived.Test.YtobokaafmcfeaaaGreatDoorSk29
import Derived.Test.YtobokaafmcfeaaaGreatDoorSk30
import Derived.Test.YtobokaafmcfeaaaGreatDoorSk31
import Derived.Test.YtobokaafmcfeaaaGreatDoorSk32
import Derived.Test.YtobokaafmcfeaaaGreatDoorSk33
import Derived.Test.YtobokaafmcfeaaaGreatDoorSk34
import Derived.Test.YtobokaafmcfeaaaGreatDoorSk35
import Derived.Test.YtobokaafmcfeaaaGreatDoorSk36
import Derived.Test.YtobokaafmcfeaaaGreatDoorSk37
import Derived.Test.YtobokaafmcfeaaaGreatDoorSk38
import Derived.Test.YtobokaafmcfeaaaGreatDoorSk41
import Derived.Test.YtobokaafmcfeaaaGreatDoorSk42
import Derived.Test.YtobokaafmcfeaaaGreatDoorSn00
import Derived.Test.YtobokaafmcfeaaaGreatDoorSn01
import Derived.Test.YtobokaafmcfeaaaGreatDoorSn02
import Derived.Lib.AppendStr
import Derived.Lib.SlBuf
import Derived.ArgAppend
import Derived.Defers
import Derived.Recover
import Derived.Tactics2
import Derived.LaidHandle
import Derived.LaidMore
import Derived.Maps.Keyed
import Derived.WideKeyElems2
import Derived.LaidOnce
import Derived.Carry
namespace Go.Proofs.YtobokaafmcfeaaaGreatDoor
open Go.RowKit Go.Cal
theorem ones_pure (k : Nat) : 2 * (2 ^ k - 1 : Int) + 1 = 2 ^ (k + 1) - 1 := by rw [Int.pow_succ]; omega
set_option maxHeartbeats 400000 in
theorem ones_any (n : Int) (w : World) (h0 : 0 ≤ n) (h1 : n ≤ 64) :
    Calls Tryz.prog 143 #[.int .i64 n] w fun e w' => e = .returned (.int .u64 (2 ^ n.toNat - 1)) ∧ w = w' := by
  obtain ⟨m, rfl⟩ := Int.eq_ofNat_of_zero_le h0
  go_enter Tryz.func143, Tryz.ntmps143
  go_wp2
  go_loop [3, 4] (fun x i => ∃ k : Nat, k ≤ m ∧ i = .int .i64 k ∧ x = .int .u64 (2 ^ k - 1)) (fun _ i => m - (intOf i).toNat)
  case atStart => exact ⟨0, by omega, rfl, rfl⟩
  case round =>
    obtain ⟨k, hk, rfl, rfl⟩ := hrel
    by_cases hlt : k < m
    · have hp := Lib.hid (ones_pure k)
      have hq := pow_pos k
      have hq' := pow_le63 k (by omega)
      go_wp2
      rw [hp.out]
      exact ⟨⟨k + 1, by omega, by go_num, rfl⟩, by simp [intOf]; omega⟩
    · obtain rfl : k = m := by omega
      go_wp2
      go_ret
      exact ⟨rfl, rfl⟩
set_option maxHeartbeats 400000 in
theorem rmask_any (k wi ma bi tp nf na : Int) (w : World) (h0 : 0 ≤ wi) (h1 : wi ≤ 64) :
    Calls Tryz.prog 92 #[.agg #[.int .i64 k, .int .i64 wi, .int .i64 ma, .int .i64 bi, .int .u64 tp, .int .u64 nf, .int .u64 na]] w fun e w' => e = .returned (.int .u64 (2 ^ wi.toNat - 1)) ∧ Below w.heap.size w w' := by
  go_enter Tryz.func92, Tryz.ntmps92
  go_wp2_with fail
  refine (ones_any _ _ h0 h1).mono ?_
  rintro e w1 ⟨rfl, rfl⟩
  go_wp2
  go_ret
  exact ⟨rfl, (Below.refl _ _).alloc (Nat.le_refl _) _⟩
set_option maxHeartbeats 400000 in
theorem signed_5 (w : World) :
    Calls Tryz.prog 144 #[.int .i64 8, .int .i64 3, .int .i64 7, .int .i64 1] w fun e w' => e = .returned (.agg #[.int .i64 2, .int .i64 8, .int .i64 3, .int .i64 7, .int .u64 126, .int .u64 0, .int .u64 127]) ∧ Below w.heap.size w w' := by
  go_enter Tryz.func144, Tryz.ntmps144
  go_wp2_with (go_at_call 143; refine (ones_any _ _ (by omega) (by omega)).mono ?_; rintro e w1 ⟨rfl, rfl⟩)
  refine bodyPost_ret (v := .agg #[.int .i64 2, .int .i64 8, .int .i64 3, .int .i64 7, .int .u64 126, .int .u64 0, .int .u64 127]) (by simp [results, Tryz.results144, go_sem]) rfl ⟨rfl, ?_⟩
  exact ((Below.refl _ _).alloc (Nat.le_refl _) _).alloc (by simp) _
set_option maxHeartbeats 400000 in
theorem signed_7 (w : World) :
    Calls Tryz.prog 144 #[.int .i64 6, .int .i64 2, .int .i64 3, .int .i64 0] w fun e w' => e = .returned (.agg #[.int .i64 2, .int .i64 6, .int .i64 2, .int .i64 3, .int .u64 31, .int .u64 0, .int .u64 0]) ∧ Below w.heap.size w w' := by
  go_enter Tryz.func144, Tryz.ntmps144
  go_wp2_with (go_at_call 143; refine (ones_any _ _ (by omega) (by omega)).mono ?_; rintro e w1 ⟨rfl, rfl⟩)
  refine bodyPost_ret (v := .agg #[.int .i64 2, .int .i64 6, .int .i64 2, .int .i64 3, .int .u64 31, .int .u64 0, .int .u64 0]) (by simp [results, Tryz.results144, go_sem]) rfl ⟨rfl, ?_⟩
  exact ((Below.refl _ _).alloc (Nat.le_refl _) _).alloc (by simp) _
set_option maxHeartbeats 400000 in
theorem signed_8 (w : World) :
    Calls Tryz.prog 144 #[.int .i64 6, .int .i64 3, .int .i64 1, .int .i64 0] w fun e w' => e = .returned (.agg #[.int .i64 2, .int .i64 6, .int .i64 3, .int .i64 1, .int .u64 31, .int .u64 0, .int .u64 0]) ∧ Below w.heap.size w w' := by
  go_enter Tryz.func144, Tryz.ntmps144
  go_wp2_with (go_at_call 143; refine (ones_any _ _ (by omega) (by omega)).mono ?_; rintro e w1 ⟨rfl, rfl⟩)
  refine bodyPost_ret (v := .agg #[.int .i64 2, .int .i64 6, .int .i64 3, .int .i64 1, .int .u64 31, .int .u64 0, .int .u64 0]) (by simp [results, Tryz.results144, go_sem]) rfl ⟨rfl, ?_⟩
  exact ((Below.refl _ _).alloc (Nat.le_refl _) _).alloc (by simp) _
set_option maxHeartbeats 400000 in
theorem signed_9 (w : World) :
    Calls Tryz.prog 144 #[.int .i64 4, .int .i64 1, .int .i64 1, .int .i64 0] w fun e w' => e = .returned (.agg #[.int .i64 2, .int .i64 4, .int .i64 1, .int .i64 1, .int .u64 7, .int .u64 0, .int .u64 0]) ∧ Below w.heap.size w w' := by
  go_enter Tryz.func144, Tryz.ntmps144
  go_wp2_with (go_at_call 143; refine (ones_any _ _ (by omega) (by omega)).mono ?_; rintro e w1 ⟨rfl, rfl⟩)
  refine bodyPost_ret (v := .agg #[.int .i64 2, .int .i64 4, .int .i64 1, .int .i64 1, .int .u64 7, .int .u64 0, .int .u64 0]) (by simp [results, Tryz.results144, go_sem]) rfl ⟨rfl, ?_⟩
  exact ((Below.refl _ _).alloc (Nat.le_refl _) _).alloc (by simp) _
set_option maxHeartbeats 400000 in
theorem signed_6 (w : World) :
    Calls Tryz.prog 144 #[.int .i64 8, .int .i64 2, .int .i64 15, .int .i64 2] w fun e w' => e = .returned (.agg #[.int .i64 2, .int .i64 8, .int .i64 2, .int .i64 15, .int .u64 123, .int .u64 124, .int .u64 126]) ∧ Below w.heap.size w w' := by
  go_enter Tryz.func144, Tryz.ntmps144
  go_wp2_with (go_at_call 143; refine (ones_any _ _ (by omega) (by omega)).mono ?_; rintro e w1 ⟨rfl, rfl⟩)
  go_region_with (go_at_call 143; refine (ones_any _ _ (by omega) (by omega)).mono ?_; rintro e w1 ⟨rfl, rfl⟩)
  all_goals go_wp2
  all_goals
    refine bodyPost_ret (v := .agg #[.int .i64 2, .int .i64 8, .int .i64 2, .int .i64 15, .int .u64 123, .int .u64 124, .int .u64 126]) (by simp [results, Tryz.results144, go_sem]) rfl ⟨rfl, ?_⟩
    exact (((Below.refl _ _).alloc (Nat.le_refl _) _).alloc (by simp) _).drew
set_option maxHeartbeats 400000 in
theorem signed_12 (w : World) :
    Calls Tryz.prog 144 #[.int .i64 16, .int .i64 10, .int .i64 15, .int .i64 2] w fun e w' => e = .returned (.agg #[.int .i64 2, .int .i64 16, .int .i64 10, .int .i64 15, .int .u64 31743, .int .u64 31744, .int .u64 32256]) ∧ Below w.heap.size w w' := by
  go_enter Tryz.func144, Tryz.ntmps144
  go_wp2_with (go_at_call 143; refine (ones_any _ _ (by omega) (by omega)).mono ?_; rintro e w1 ⟨rfl, rfl⟩)
  go_region_with (go_at_call 143; refine (ones_any _ _ (by omega) (by omega)).mono ?_; rintro e w1 ⟨rfl, rfl⟩)
  all_goals go_wp2
  all_goals
    refine bodyPost_ret (v := .agg #[.int .i64 2, .int .i64 16, .int .i64 10, .int .i64 15, .int .u64 31743, .int .u64 31744, .int .u64 32256]) (by simp [results, Tryz.results144, go_sem]) rfl ⟨rfl, ?_⟩
    exact (((Below.refl _ _).alloc (Nat.le_refl _) _).alloc (by simp) _).drew
set_option maxHeartbeats 400000 in
theorem signed_13 (w : World) :
    Calls Tryz.prog 144 #[.int .i64 32, .int .i64 23, .int .i64 127, .int .i64 2] w fun e w' => e = .returned (.agg #[.int .i64 2, .int .i64 32, .int .i64 23, .int .i64 127, .int .u64 2139095039, .int .u64 2139095040, .int .u64 2143289344]) ∧ Below w.heap.size w w' := by
  go_enter Tryz.func144, Tryz.ntmps144
  go_wp2_with (go_at_call 143; refine (ones_any _ _ (by omega) (by omega)).mono ?_; rintro e w1 ⟨rfl, rfl⟩)
  go_region_with (go_at_call 143; refine (ones_any _ _ (by omega) (by omega)).mono ?_; rintro e w1 ⟨rfl, rfl⟩)
  all_goals go_wp2
  all_goals
    refine bodyPost_ret (v := .agg #[.int .i64 2, .int .i64 32, .int .i64 23, .int .i64 127, .int .u64 2139095039, .int .u64 2139095040, .int .u64 2143289344]) (by simp [results, Tryz.results144, go_sem]) rfl ⟨rfl, ?_⟩
    exact (((Below.refl _ _).alloc (Nat.le_refl _) _).alloc (by simp) _).drew
set_option maxHeartbeats 400000 in
theorem signed_14 (w : World) :
    Calls Tryz.prog 144 #[.int .i64 64, .int .i64 52, .int .i64 1023, .int .i64 2] w fun e w' => e = .returned (.agg #[.int .i64 2, .int .i64 64, .int .i64 52, .int .i64 1023, .int .u64 9218868437227405311, .int .u64 9218868437227405312, .int .u64 9221120237041090560]) ∧ Below w.heap.size w w' := by
  go_enter Tryz.func144, Tryz.ntmps144
  go_wp2_with (go_at_call 143; refine (ones_any _ _ (by omega) (by omega)).mono ?_; rintro e w1 ⟨rfl, rfl⟩)
  go_region_with (go_at_call 143; refine (ones_any _ _ (by omega) (by omega)).mono ?_; rintro e w1 ⟨rfl, rfl⟩)
  all_goals go_wp2
  all_goals
    refine bodyPost_ret (v := .agg #[.int .i64 2, .int .i64 64, .int .i64 52, .int .i64 1023, .int .u64 9218868437227405311, .int .u64 9218868437227405312, .int .u64 9221120237041090560]) (by simp [results, Tryz.results144, go_sem]) rfl ⟨rfl, ?_⟩
    exact (((Below.refl _ _).alloc (Nat.le_refl _) _).alloc (by simp) _).drew
theorem fv_1 : Value.agg #[.int .i64 (fK 1), .int .i64 (fW 1), .int .i64 (fM 1), .int .i64 (fB 1), .int .u64 (fT 1), .int .u64 (fI 1), .int .u64 (fN 1)] = .agg #[.int .i64 1, .int .i64 8, .int .i64 0, .int .i64 0, .int .u64 127, .int .u64 0, .int .u64 128] := rfl
theorem fv_2 : Value.agg #[.int .i64 (fK 2), .int .i64 (fW 2), .int .i64 (fM 2), .int .i64 (fB 2), .int .u64 (fT 2), .int .u64 (fI 2), .int .u64 (fN 2)] = .agg #[.int .i64 1, .int .i64 16, .int .i64 0, .int .i64 0, .int .u64 32767, .int .u64 0, .int .u64 32768] := rfl
theorem fv_3 : Value.agg #[.int .i64 (fK 3), .int .i64 (fW 3), .int .i64 (fM 3), .int .i64 (fB 3), .int .u64 (fT 3), .int .u64 (fI 3), .int .u64 (fN 3)] = .agg #[.int .i64 1, .int .i64 32, .int .i64 0, .int .i64 0, .int .u64 2147483647, .int .u64 0, .int .u64 2147483648] := rfl
theorem fv_4 : Value.agg #[.int .i64 (fK 4), .int .i64 (fW 4), .int .i64 (fM 4), .int .i64 (fB 4), .int .u64 (fT 4), .int .u64 (fI 4), .int .u64 (fN 4)] = .agg #[.int .i64 1, .int .i64 64, .int .i64 0, .int .i64 0, .int .u64 9223372036854775807, .int .u64 0, .int .u64 9223372036854775808] := rfl
theorem fv_5 : Value.agg #[.int .i64 (fK 5), .int .i64 (fW 5), .int .i64 (fM 5), .int .i64 (fB 5), .int .u64 (fT 5), .int .u64 (fI 5), .int .u64 (fN 5)] = .agg #[.int .i64 2, .int .i64 8, .int .i64 3, .int .i64 7, .int .u64 126, .int .u64 0, .int .u64 127] := rfl
theorem fv_6 : Value.agg #[.int .i64 (fK 6), .int .i64 (fW 6), .int .i64 (fM 6), .int .i64 (fB 6), .int .u64 (fT 6), .int .u64 (fI 6), .int .u64 (fN 6)] = .agg #[.int .i64 2, .int .i64 8, .int .i64 2, .int .i64 15, .int .u64 123, .int .u64 124, .int .u64 126] := rfl
theorem fv_7 : Value.agg #[.int .i64 (fK 7), .int .i64 (fW 7), .int .i64 (fM 7), .int .i64 (fB 7), .int .u64 (fT 7), .int .u64 (fI 7), .int .u64 (fN 7)] = .agg #[.int .i64 2, .int .i64 6, .int .i64 2, .int .i64 3, .int .u64 31, .int .u64 0, .int .u64 0] := rfl
theorem fv_8 : Value.agg #[.int .i64 (fK 8), .int .i64 (fW 8), .int .i64 (fM 8), .int .i64 (fB 8), .int .u64 (fT 8), .int .u64 (fI 8), .int .u64 (fN 8)] = .agg #[.int .i64 2, .int .i64 6, .int .i64 3, .int .i64 1, .int .u64 31, .int .u64 0, .int .u64 0] := rfl
theorem fv_9 : Value.agg #[.int .i64 (fK 9), .int .i64 (fW 9), .int .i64 (fM 9), .int .i64 (fB 9), .int .u64 (fT 9), .int .u64 (fI 9), .int .u64 (fN 9)] = .agg #[.int .i64 2, .int .i64 4, .int .i64 1, .int .i64 1, .int .u64 7, .int .u64 0, .int .u64 0] := rfl
theorem fv_10 : Value.agg #[.int .i64 (fK 10), .int .i64 (fW 10), .int .i64 (fM 10), .int .i64 (fB 10), .int .u64 (fT 10), .int .u64 (fI 10), .int .u64 (fN 10)] = .agg #[.int .i64 3, .int .i64 8, .int .i64 6, .int .i64 0, .int .u64 127, .int .u64 0, .int .u64 0] := rfl
theorem fv_11 : Value.agg #[.int .i64 (fK 11), .int .i64 (fW 11), .int .i64 (fM 11), .int .i64 (fB 11), .int .u64 (fT 11), .int .u64 (fI 11), .int .u64 (fN 11)] = .agg #[.int .i64 4, .int .i64 8, .int .i64 0, .int .i64 127, .int .u64 254, .int .u64 0, .int .u64 255] := rfl
theorem fv_12 : Value.agg #[.int .i64 (fK 12), .int .i64 (fW 12), .int .i64 (fM 12), .int .i64 (fB 12), .int .u64 (fT 12), .int .u64 (fI 12), .int .u64 (fN 12)] = .agg #[.int .i64 2, .int .i64 16, .int .i64 10, .int .i64 15, .int .u64 31743, .int .u64 31744, .int .u64 32256] := rfl
theorem fv_13 : Value.agg #[.int .i64 (fK 13), .int .i64 (fW 13), .int .i64 (fM 13), .int .i64 (fB 13), .int .u64 (fT 13), .int .u64 (fI 13), .int .u64 (fN 13)] = .agg #[.int .i64 2, .int .i64 32, .int .i64 23, .int .i64 127, .int .u64 2139095039, .int .u64 2139095040, .int .u64 2143289344] := rfl
theorem fv_14 : Value.agg #[.int .i64 (fK 14), .int .i64 (fW 14), .int .i64 (fM 14), .int .i64 (fB 14), .int .u64 (fT 14), .int .u64 (fI 14), .int .u64 (fN 14)] = .agg #[.int .i64 2, .int .i64 64, .int .i64 52, .int .i64 1023, .int .u64 9218868437227405311, .int .u64 9218868437227405312, .int .u64 9221120237041090560] := rfl
set_option maxHeartbeats 400000 in
theorem rof_1 (w : World) :
    Calls Tryz.prog 64 #[.int .i64 1] w fun e w' => e = .returned (.tuple #[.agg #[.int .i64 (fK 1), .int .i64 (fW 1), .int .i64 (fM 1), .int .i64 (fB 1), .int .u64 (fT 1), .int .u64 (fI 1), .int .u64 (fN 1)], .bool true]) ∧ Below w.heap.size w w' := by
  rw [fv_1]
  go_enter Tryz.func64, Tryz.ntmps64
  go_wp2
  refine wp_loop_rounds 5 ?_
  repeat any_goals (rw [rounds_succ]; go_wp2_with (go_at_call 143; refine (ones_any _ _ (by omega) (by omega)).mono ?_; rintro e w1 ⟨rfl, rfl⟩))
  refine bodyPost_ret (v := .tuple #[.agg #[.int .i64 1, .int .i64 8, .int .i64 0, .int .i64 0, .int .u64 127, .int .u64 0, .int .u64 128], .bool true]) (by simp [results, Tryz.results64, go_sem]) rfl ⟨rfl, ?_⟩
  exact (Below.refl _ _).alloc (Nat.le_refl _) _
set_option maxHeartbeats 400000 in
theorem rof_2 (w : World) :
    Calls Tryz.prog 64 #[.int .i64 2] w fun e w' => e = .returned (.tuple #[.agg #[.int .i64 (fK 2), .int .i64 (fW 2), .int .i64 (fM 2), .int .i64 (fB 2), .int .u64 (fT 2), .int .u64 (fI 2), .int .u64 (fN 2)], .bool true]) ∧ Below w.heap.size w w' := by
  rw [fv_2]
  go_enter Tryz.func64, Tryz.ntmps64
  go_wp2
  refine wp_loop_rounds 5 ?_
  repeat any_goals (rw [rounds_succ]; go_wp2_with (go_at_call 143; refine (ones_any _ _ (by omega) (by omega)).mono ?_; rintro e w1 ⟨rfl, rfl⟩))
  refine bodyPost_ret (v := .tuple #[.agg #[.int .i64 1, .int .i64 16, .int .i64 0, .int .i64 0, .int .u64 32767, .int .u64 0, .int .u64 32768], .bool true]) (by simp [results, Tryz.results64, go_sem]) rfl ⟨rfl, ?_⟩
  exact (Below.refl _ _).alloc (Nat.le_refl _) _
set_option maxHeartbeats 400000 in
theorem rof_3 (w : World) :
    Calls Tryz.prog 64 #[.int .i64 3] w fun e w' => e = .returned (.tuple #[.agg #[.int .i64 (fK 3), .int .i64 (fW 3), .int .i64 (fM 3), .int .i64 (fB 3), .int .u64 (fT 3), .int .u64 (fI 3), .int .u64 (fN 3)], .bool true]) ∧ Below w.heap.size w w' := by
  rw [fv_3]
  go_enter Tryz.func64, Tryz.ntmps64
  go_wp2
  refine wp_loop_rounds 5 ?_
  repeat any_goals (rw [rounds_succ]; go_wp2_with (go_at_call 143; refine (ones_any _ _ (by omega) (by omega)).mono ?_; rintro e w1 ⟨rfl, rfl⟩))
  refine bodyPost_ret (v := .tuple #[.agg #[.int .i64 1, .int .i64 32, .int .i64 0, .int .i64 0, .int .u64 2147483647, .int .u64 0, .int .u64 2147483648], .bool true]) (by simp [results, Tryz.results64, go_sem]) rfl ⟨rfl, ?_⟩
  exact (Below.refl _ _).alloc (Nat.le_refl _) _
set_option maxHeartbeats 400000 in
theorem rof_4 (w : World) :
    Calls Tryz.prog 64 #[.int .i64 4] w fun e w' => e = .returned (.tuple #[.agg #[.int .i64 (fK 4), .int .i64 (fW 4), .int .i64 (fM 4), .int .i64 (fB 4), .int .u64 (fT 4), .int .u64 (fI 4), .int .u64 (fN 4)], .bool true]) ∧ Below w.heap.size w w' := by
  rw [fv_4]
  go_enter Tryz.func64, Tryz.ntmps64
  go_wp2
  refine wp_loop_rounds 5 ?_
  repeat any_goals (rw [rounds_succ]; go_wp2_with (go_at_call 143; refine (ones_any _ _ (by omega) (by omega)).mono ?_; rintro e w1 ⟨rfl, rfl⟩))
  refine bodyPost_ret (v := .tuple #[.agg #[.int .i64 1, .int .i64 64, .int .i64 0, .int .i64 0, .int .u64 9223372036854775807, .int .u64 0, .int .u64 9223372036854775808], .bool true]) (by simp [results, Tryz.results64, go_sem]) rfl ⟨rfl, ?_⟩
  exact (Below.refl _ _).alloc (Nat.le_refl _) _
set_option maxHeartbeats 400000 in
theorem rof_5 (w : World) :
    Calls Tryz.prog 64 #[.int .i64 5] w fun e w' => e = .returned (.tuple #[.agg #[.int .i64 (fK 5), .int .i64 (fW 5), .int .i64 (fM 5), .int .i64 (fB 5), .int .u64 (fT 5), .int .u64 (fI 5), .int .u64 (fN 5)], .bool true]) ∧ Below w.heap.size w w' := by
  rw [fv_5]
  go_enter Tryz.func64, Tryz.ntmps64
  go_wp2_with fail
  refine (signed_5 _).mono ?_
  rintro e w1 ⟨rfl, hb⟩
  have hz := hb.size
  simp at hz
  obtain ⟨hc, hf⟩ := bcell hb
  have hg := hf w.heap.size 0 (by simp)
  go_wp2
  refine bodyPost_ret (v := .tuple #[.agg #[.int .i64 2, .int .i64 8, .int .i64 3, .int .i64 7, .int .u64 126, .int .u64 0, .int .u64 127], .bool true]) (by simp [results, Tryz.results64, go_sem, hc]) rfl ⟨rfl, ?_⟩
  have hb0 := ((Below.refl w.heap.size w).alloc (Nat.le_refl _) (.cells #[.int .i64 0, .int .i64 0, .int .i64 0, .int .i64 0, .int .u64 0, .int .u64 0, .int .u64 0] 103)).trans (hb.mono (by simp))
  exact ((((((hb0.setCell (Nat.le_refl _) _).setCell (Nat.le_refl _) _).setCell (Nat.le_refl _) _).setCell (Nat.le_refl _) _).setCell (Nat.le_refl _) _).setCell (Nat.le_refl _) _).setCell (Nat.le_refl _) _
set_option maxHeartbeats 400000 in
theorem rof_6 (w : World) :
    Calls Tryz.prog 64 #[.int .i64 6] w fun e w' => e = .returned (.tuple #[.agg #[.int .i64 (fK 6), .int .i64 (fW 6), .int .i64 (fM 6), .int .i64 (fB 6), .int .u64 (fT 6), .int .u64 (fI 6), .int .u64 (fN 6)], .bool true]) ∧ Below w.heap.size w w' := by
  rw [fv_6]
  go_enter Tryz.func64, Tryz.ntmps64
  go_wp2_with fail
  refine (signed_6 _).mono ?_
  rintro e w1 ⟨rfl, hb⟩
  have hz := hb.size
  simp at hz
  obtain ⟨hc, hf⟩ := bcell hb
  have hg := hf w.heap.size 0 (by simp)
  go_wp2
  refine bodyPost_ret (v := .tuple #[.agg #[.int .i64 2, .int .i64 8, .int .i64 2, .int .i64 15, .int .u64 123, .int .u64 124, .int .u64 126], .bool true]) (by simp [results, Tryz.results64, go_sem, hc]) rfl ⟨rfl, ?_⟩
  have hb0 := ((Below.refl w.heap.size w).alloc (Nat.le_refl _) (.cells #[.int .i64 0, .int .i64 0, .int .i64 0, .int .i64 0, .int .u64 0, .int .u64 0, .int .u64 0] 103)).trans (hb.mono (by simp))
  exact ((((((hb0.setCell (Nat.le_refl _) _).setCell (Nat.le_refl _) _).setCell (Nat.le_refl _) _).setCell (Nat.le_refl _) _).setCell (Nat.le_refl _) _).setCell (Nat.le_refl _) _).setCell (Nat.le_refl _) _
set_option maxHeartbeats 400000 in
theorem rof_7 (w : World) :
    Calls Tryz.prog 64 #[.int .i64 7] w fun e w' => e = .returned (.tuple #[.agg #[.int .i64 (fK 7), .int .i64 (fW 7), .int .i64 (fM 7), .int .i64 (fB 7), .int .u64 (fT 7), .int .u64 (fI 7), .int .u64 (fN 7)], .bool true]) ∧ Below w.heap.size w w' := by
  rw [fv_7]
  go_enter Tryz.func64, Tryz.ntmps64
  go_wp2_with fail
  refine (signed_7 _).mono ?_
  rintro e w1 ⟨rfl, hb⟩
  have hz := hb.size
  simp at hz
  obtain ⟨hc, hf⟩ := bcell hb
  have hg := hf w.heap.size 0 (by simp)
  go_wp2
  refine bodyPost_ret (v := .tuple #[.agg #[.int .i64 2, .int .i64 6, .int .i64 2, .int .i64 3, .int .u64 31, .int .u64 0, .int .u64 0], .bool true]) (by simp [results, Tryz.results64, go_sem, hc]) rfl ⟨rfl, ?_⟩
  have hb0 := ((Below.refl w.heap.size w).alloc (Nat.le_refl _) (.cells #[.int .i64 0, .int .i64 0, .int .i64 0, .int .i64 0, .int .u64 0, .int .u64 0, .int .u64 0] 103)).trans (hb.mono (by simp))
  exact ((((((hb0.setCell (Nat.le_refl _) _).setCell (Nat.le_refl _) _).setCell (Nat.le_refl _) _).setCell (Nat.le_refl _) _).setCell (Nat.le_refl _) _).setCell (Nat.le_refl _) _).setCell (Nat.le_refl _) _
set_option maxHeartbeats 400000 in
theorem rof_8 (w : World) :
    Calls Tryz.prog 64 #[.int .i64 8] w fun e w' => e = .returned (.tuple #[.agg #[.int .i64 (fK 8), .int .i64 (fW 8), .int .i64 (fM 8), .int .i64 (fB 8), .int .u64 (fT 8), .int .u64 (fI 8), .int .u64 (fN 8)], .bool true]) ∧ Below w.heap.size w w' := by
  rw [fv_8]
  go_enter Tryz.func64, Tryz.ntmps64
  go_wp2_with fail
  refine (signed_8 _).mono ?_
  rintro e w1 ⟨rfl, hb⟩
  have hz := hb.size
  simp at hz
  obtain ⟨hc, hf⟩ := bcell hb
  have hg := hf w.heap.size 0 (by simp)
  go_wp2
  refine bodyPost_ret (v := .tuple #[.agg #[.int .i64 2, .int .i64 6, .int .i64 3, .int .i64 1, .int .u64 31, .int .u64 0, .int .u64 0], .bool true]) (by simp [results, Tryz.results64, go_sem, hc]) rfl ⟨rfl, ?_⟩
  have hb0 := ((Below.refl w.heap.size w).alloc (Nat.le_refl _) (.cells #[.int .i64 0, .int .i64 0, .int .i64 0, .int .i64 0, .int .u64 0, .int .u64 0, .int .u64 0] 103)).trans (hb.mono (by simp))
  exact ((((((hb0.setCell (Nat.le_refl _) _).setCell (Nat.le_refl _) _).setCell (Nat.le_refl _) _).setCell (Nat.le_refl _) _).setCell (Nat.le_refl _) _).setCell (Nat.le_refl _) _).setCell (Nat.le_refl _) _
set_option maxHeartbeats 400000 in
theorem rof_9 (w : World) :
    Calls Tryz.prog 64 #[.int .i64 9] w fun e w' => e = .returned (.tuple #[.agg #[.int .i64 (fK 9), .int .i64 (fW 9), .int .i64 (fM 9), .int .i64 (fB 9), .int .u64 (fT 9), .int .u64 (fI 9), .int .u64 (fN 9)], .bool true]) ∧ Below w.heap.size w w' := by
  rw [fv_9]
  go_enter Tryz.func64, Tryz.ntmps64
  go_wp2_with fail
  refine (signed_9 _).mono ?_
  rintro e w1 ⟨rfl, hb⟩
  have hz := hb.size
  simp at hz
  obtain ⟨hc, hf⟩ := bcell hb
  have hg := hf w.heap.size 0 (by simp)
  go_wp2
  refine bodyPost_ret (v := .tuple #[.agg #[.int .i64 2, .int .i64 4, .int .i64 1, .int .i64 1, .int .u64 7, .int .u64 0, .int .u64 0], .bool true]) (by simp [results, Tryz.results64, go_sem, hc]) rfl ⟨rfl, ?_⟩
  have hb0 := ((Below.refl w.heap.size w).alloc (Nat.le_refl _) (.cells #[.int .i64 0, .int .i64 0, .int .i64 0, .int .i64 0, .int .u64 0, .int .u64 0, .int .u64 0] 103)).trans (hb.mono (by simp))
  exact ((((((hb0.setCell (Nat.le_refl _) _).setCell (Nat.le_refl _) _).setCell (Nat.le_refl _) _).setCell (Nat.le_refl _) _).setCell (Nat.le_refl _) _).setCell (Nat.le_refl _) _).setCell (Nat.le_refl _) _
set_option maxHeartbeats 400000 in
theorem rof_12 (w : World) :
    Calls Tryz.prog 64 #[.int .i64 12] w fun e w' => e = .returned (.tuple #[.agg #[.int .i64 (fK 12), .int .i64 (fW 12), .int .i64 (fM 12), .int .i64 (fB 12), .int .u64 (fT 12), .int .u64 (fI 12), .int .u64 (fN 12)], .bool true]) ∧ Below w.heap.size w w' := by
  rw [fv_12]
  go_enter Tryz.func64, Tryz.ntmps64
  go_wp2_with fail
  refine (signed_12 _).mono ?_
  rintro e w1 ⟨rfl, hb⟩
  have hz := hb.size
  simp at hz
  obtain ⟨hc, hf⟩ := bcell hb
  have hg := hf w.heap.size 0 (by simp)
  go_wp2
  refine bodyPost_ret (v := .tuple #[.agg #[.int .i64 2, .int .i64 16, .int .i64 10, .int .i64 15, .int .u64 31743, .int .u64 31744, .int .u64 32256], .bool true]) (by simp [results, Tryz.results64, go_sem, hc]) rfl ⟨rfl, ?_⟩
  have hb0 := ((Below.refl w.heap.size w).alloc (Nat.le_refl _) (.cells #[.int .i64 0, .int .i64 0, .int .i64 0, .int .i64 0, .int .u64 0, .int .u64 0, .int .u64 0] 103)).trans (hb.mono (by simp))
  exact ((((((hb0.setCell (Nat.le_refl _) _).setCell (Nat.le_refl _) _).setCell (Nat.le_refl _) _).setCell (Nat.le_refl _) _).setCell (Nat.le_refl _) _).setCell (Nat.le_refl _) _).setCell (Nat.le_refl _) _
set_option maxHeartbeats 400000 in
theorem rof_13 (w : World) :
    Calls Tryz.prog 64 #[.int .i64 13] w fun e w' => e = .returned (.tuple #[.agg #[.int .i64 (fK 13), .int .i64 (fW 13), .int .i64 (fM 13), .int .i64 (fB 13), .int .u64 (fT 13), .int .u64 (fI 13), .int .u64 (fN 13)], .bool true]) ∧ Below w.heap.size w w' := by
  rw [fv_13]
  go_enter Tryz.func64, Tryz.ntmps64
  go_wp2_with fail
  refine (signed_13 _).mono ?_
  rintro e w1 ⟨rfl, hb⟩
  have hz := hb.size
  simp at hz
  obtain ⟨hc, hf⟩ := bcell hb
  have hg := hf w.heap.size 0 (by simp)
  go_wp2
  refine bodyPost_ret (v := .tuple #[.agg #[.int .i64 2, .int .i64 32, .int .i64 23, .int .i64 127, .int .u64 2139095039, .int .u64 2139095040, .int .u64 2143289344], .bool true]) (by simp [results, Tryz.results64, go_sem, hc]) rfl ⟨rfl, ?_⟩
  have hb0 := ((Below.refl w.heap.size w).alloc (Nat.le_refl _) (.cells #[.int .i64 0, .int .i64 0, .int .i64 0, .int .i64 0, .int .u64 0, .int .u64 0, .int .u64 0] 103)).trans (hb.mono (by simp))
  exact ((((((hb0.setCell (Nat.le_refl _) _).setCell (Nat.le_refl _) _).setCell (Nat.le_refl _) _).setCell (Nat.le_refl _) _).setCell (Nat.le_refl _) _).setCell (Nat.le_refl _) _).setCell (Nat.le_refl _) _
set_option maxHeartbeats 400000 in
theorem rof_14 (w : World) :
    Calls Tryz.prog 64 #[.int .i64 14] w fun e w' => e = .returned (.tuple #[.agg #[.int .i64 (fK 14), .int .i64 (fW 14), .int .i64 (fM 14), .int .i64 (fB 14), .int .u64 (fT 14), .int .u64 (fI 14), .int .u64 (fN 14)], .bool true]) ∧ Below w.heap.size w w' := by
  rw [fv_14]
  go_enter Tryz.func64, Tryz.ntmps64
  go_wp2_with fail
  refine (signed_14 _).mono ?_
  rintro e w1 ⟨rfl, hb⟩
  have hz := hb.size
  simp at hz
  obtain ⟨hc, hf⟩ := bcell hb
  have hg := hf w.heap.size 0 (by simp)
  go_wp2
  refine bodyPost_ret (v := .tuple #[.agg #[.int .i64 2, .int .i64 64, .int .i64 52, .int .i64 1023, .int .u64 9218868437227405311, .int .u64 9218868437227405312, .int .u64 9221120237041090560], .bool true]) (by simp [results, Tryz.results64, go_sem, hc]) rfl ⟨rfl, ?_⟩
  have hb0 := ((Below.refl w.heap.size w).alloc (Nat.le_refl _) (.cells #[.int .i64 0, .int .i64 0, .int .i64 0, .int .i64 0, .int .u64 0, .int .u64 0, .int .u64 0] 103)).trans (hb.mono (by simp))
  exact ((((((hb0.setCell (Nat.le_refl _) _).setCell (Nat.le_refl _) _).setCell (Nat.le_refl _) _).setCell (Nat.le_refl _) _).setCell (Nat.le_refl _) _).setCell (Nat.le_refl _) _).setCell (Nat.le_refl _) _
set_option maxHeartbeats 400000 in
theorem rof_10 (w : World) :
    Calls Tryz.prog 64 #[.int .i64 10] w fun e w' => e = .returned (.tuple #[.agg #[.int .i64 (fK 10), .int .i64 (fW 10), .int .i64 (fM 10), .int .i64 (fB 10), .int .u64 (fT 10), .int .u64 (fI 10), .int .u64 (fN 10)], .bool true]) ∧ Below w.heap.size w w' := by
  rw [fv_10]
  go_enter Tryz.func64, Tryz.ntmps64
  go_wp2
  refine bodyPost_ret (v := .tuple #[.agg #[.int .i64 3, .int .i64 8, .int .i64 6, .int .i64 0, .int .u64 127, .int .u64 0, .int .u64 0], .bool true]) (by simp [results, Tryz.results64, go_sem]) rfl ⟨rfl, ?_⟩
  exact (Below.refl _ _).alloc (Nat.le_refl _) _
set_option maxHeartbeats 400000 in
theorem rof_11 (w : World) :
    Calls Tryz.prog 64 #[.int .i64 11] w fun e w' => e = .returned (.tuple #[.agg #[.int .i64 (fK 11), .int .i64 (fW 11), .int .i64 (fM 11), .int .i64 (fB 11), .int .u64 (fT 11), .int .u64 (fI 11), .int .u64 (fN 11)], .bool true]) ∧ Below w.heap.size w w' := by
  rw [fv_11]
  go_enter Tryz.func64, Tryz.ntmps64
  go_wp2
  refine bodyPost_ret (v := .tuple #[.agg #[.int .i64 4, .int .i64 8, .int .i64 0, .int .i64 127, .int .u64 254, .int .u64 0, .int .u64 255], .bool true]) (by simp [results, Tryz.results64, go_sem]) rfl ⟨rfl, ?_⟩
  exact (Below.refl _ _).alloc (Nat.le_refl _) _
set_option maxHeartbeats 400000 in
theorem rof_no (id : Int) (w : World) (h : id < 1 ∨ 15 ≤ id) :
    Calls Tryz.prog 64 #[.int .i64 id] w fun e w' => e = .returned (.tuple #[.agg #[.int .i64 0, .int .i64 0, .int .i64 0, .int .i64 0, .int .u64 0, .int .u64 0, .int .u64 0], .bool false]) ∧ Below w.heap.size w w' := by
  rcases h with h | h
  all_goals
    go_enter Tryz.func64, Tryz.ntmps64
    go_wp2
    refine bodyPost_ret (v := .tuple #[.agg #[.int .i64 0, .int .i64 0, .int .i64 0, .int .i64 0, .int .u64 0, .int .u64 0, .int .u64 0], .bool false]) (by simp [results, Tryz.results64, go_sem]) rfl ⟨rfl, ?_⟩
    exact (Below.refl _ _).alloc (Nat.le_refl _) _
theorem rof_yes (id : Int) (w : World) (h1 : 1 ≤ id) (h2 : id < 15) :
    Calls Tryz.prog 64 #[.int .i64 id] w fun e w' => e = .returned (.tuple #[.agg #[.int .i64 (fK id), .int .i64 (fW id), .int .i64 (fM id), .int .i64 (fB id), .int .u64 (fT id), .int .u64 (fI id), .int .u64 (fN id)], .bool true]) ∧ Below w.heap.size w w' := by
  rcases id_cases h1 h2 with rfl | rfl | rfl | rfl | rfl | rfl | rfl | rfl | rfl | rfl | rfl | rfl | rfl | rfl
  · exact rof_1 w
  · exact rof_2 w
  · exact rof_3 w
  · exact rof_4 w
  · exact rof_5 w
  · exact rof_6 w
  · exact rof_7 w
  · exact rof_8 w
  · exact rof_9 w
  · exact rof_10 w
  · exact rof_11 w
  · exact rof_12 w
  · exact rof_13 w
  · exact rof_14 w
end Go.Proofs.YtobokaafmcfeaaaGreatDoor
namespace Go.Proofs.YtobokaafmcfeaaaGreatDoor
open Go.RowKit Go.Cal
theorem lBv_at {l : List UInt8} {j : Nat} {v : Value} (h : (lBv l)[j]? = some v) : j < l.length ∧ v = .int .u8 (((l.getD j 0).toNat : Nat) : Int) := by
  have hj : j < l.length := by
    have := (List.getElem?_eq_some_iff.1 h).1
    rwa [lBv_length] at this
  refine ⟨hj, ?_⟩
  simp [lBv, hj] at h
  rw [← h]
  simp [List.getD_eq_getElem?_getD, hj]
theorem lBv_one (l : List UInt8) : ∀ u ∈ lBv l, u.oneCell' = true := by
  intro u hu
  simp only [lBv, List.mem_map] at hu
  obtain ⟨x, _, rfl⟩ := hu
  rfl
theorem ownB_lit2 (w : World) (o : Obj) (l : List UInt8) (C : Array Value) (hC : C = (lBv l).toArray) (hm : l.length ≤ maxLen) : OwnB ((w.alloc o).alloc (.cells C 5)) (w.heap.size + 1) (w.heap.size + 1) l.length l := by
  have hs : (w.alloc o).heap.size = w.heap.size + 1 := by simp
  have h := ownB_lit (w.alloc o) (w.heap.size + 1) l 0 0 C hC (by rw [hs]; exact Nat.le_refl _) hm (.inr rfl)
  rw [hs] at h
  exact h
theorem getD_app_l (a b : List UInt8) {i : Nat} (h : i < a.length) : (a ++ b).getD i 0 = a.getD i 0 := by
  rw [List.getD_eq_getElem?_getD, List.getD_eq_getElem?_getD, List.getElem?_append_left h]
theorem getD_app_r (a b : List UInt8) {i : Nat} : (a ++ b).getD (a.length + i) 0 = b.getD i 0 := by
  simp [List.getD_eq_getElem?_getD, List.getElem?_append_right]
/-- The row that is written at its end. -/
theorem ownB_more {w : World} {base g cap : Nat} {l m : List UInt8} (h : OwnB w base g cap l) (hr : l.length + m.length ≤ cap) : OwnB (w.setCells g l.length (lBv m)) base g cap (l ++ m) := by
  have hb : Below 0 w (w.setCells g l.length (lBv m)) := Lib.below_setCells g (by omega) _ _ (Below.refl _ _)
  have hso : ∀ j, j < (lBv m).length → (w.cell? ⟨g, l.length + j, none⟩).isSome = true := fun j hj => h.some _ (by rw [lBv_length] at hj; omega)
  have hin := World.cell?_setCells_in g (lBv m) l.length w hso
  refine ⟨h.base, Nat.lt_of_lt_of_le h.lt hb.size, by rw [List.length_append]; exact hr, h.capb, fun i hi => ?_, fun i hi => ?_, fun i hi => by rw [World.frozen?_setCells]; exact h.free i hi⟩
  · rcases Nat.lt_or_ge i l.length with hl | hl
    · rw [World.cell?_setCells_out _ _ _ _ _ (fun _ _ => .inl hl), getD_app_l _ _ hl]
      exact h.cells i hl
    · obtain ⟨j, rfl⟩ := Nat.exists_eq_add_of_le hl
      rw [List.length_append] at hi
      have hj : j < (lBv m).length := by rw [lBv_length]; omega
      rw [hin j hj, getD_app_r]
      have := lBv_get (l := m) (j := j) (by omega)
      rw [List.getElem?_eq_getElem hj] at this
      exact this
  · by_cases hj : l.length ≤ i ∧ i < l.length + (lBv m).length
    · obtain ⟨j, rfl⟩ := Nat.exists_eq_add_of_le hj.1
      rw [hin j (by omega)]; rfl
    · rw [World.cell?_setCells_out _ _ _ _ _ (fun _ _ => by show i < _ ∨ _ ≤ i; omega)]
      exact h.some i hi
/-- The row that grows. -/
theorem ownB_grown (w : World) (base c : Nat) (l m : List UInt8) (hb : base ≤ w.heap.size) (hc : l.length + m.length ≤ c) (hm : c ≤ maxLen) : OwnB (w.drew.alloc (.cells ((lBv l).toArray ++ (lBv m).toArray ++ Builtin.zeroCells (Value.int .u8 0).cells (c - (l.length + m.length))) 5)) base w.heap.size c (l ++ m) := by
  have hz1 : (Value.int IntKind.u8 0).cells.size = 1 := rfl
  refine ownB_row w.drew base _ 0 0 c (l ++ m) hb ?_ (by rw [List.length_append]; exact hc) hm (fun i hi => ?_) (.inr rfl)
  · simp only [Array.size_append, List.size_toArray, size_zeroCells, hz1, lBv_length]; omega
  · have hmap : (lBv l).toArray ++ (lBv m).toArray = (lBv (l ++ m)).toArray := by simp [lBv]
    rw [hmap, Array.getElem?_append_left (by rw [List.size_toArray, lBv_length]; exact hi), List.getElem?_toArray]
    exact lBv_get hi
theorem run_app {w : World} {base g cap B c2 : Nat} {A : Option Addr} {l m : List UInt8} (ty : TypeId) (h : OwnB w base g cap l) (h2 : RdB w B A m) (hbase : base ≤ w.heap.size) (hsz : l.length + m.length ≤ 140737488355328) :
    ∃ g' cap' w', (Builtin.append_ #[42, 42] ty #[.slice (some ⟨g, 0, none⟩) l.length cap, .slice A m.length c2]).run Tryz.prog w = .ok (.slice (some ⟨g', 0, none⟩) (l ++ m).length cap') w' ∧ OwnB w' base g' cap' (l ++ m) ∧ Below base w w' := by
  obtain ⟨i, hi, hz0, hz1, hz2⟩ := info_parts sinfo_byte
  have hlen : (l ++ m).length = l.length + m.length := List.length_append
  rcases h2.place with rfl | ⟨b, off, rfl, hb⟩
  · refine ⟨g, cap, w, ?_, by rw [List.append_nil]; exact h, Below.refl _ _⟩
    have hroom : l.length + 0 ≤ cap := h.len
    cases A with
    | none => simp [Builtin.append_, run_underlying sunder_bytes, sizeOf, typeInfo, hi, Builtin.lenOf, Builtin.firstCells, h.len, storeCells]
    | some a =>
      have hr := run_append_room_cells (P := Tryz.prog) w 42 ty 5 i sunder_bytes hi g 0 l.length cap a 0 c2 [] (by simp) (fun j u hj => by simp at hj) (fun u hu => by simp at hu) hroom (fun j hj => by simp at hj) (fun j hj => by simp at hj)
      rw [List.append_nil]
      exact hr
  · have hnews : ∀ j u, (lBv m)[j]? = some u → w.cell? ((⟨b, off, none⟩ : Addr).add j) = some u := fun j u hj => by
      obtain ⟨h1, rfl⟩ := lBv_at hj
      rw [Addr.add_lit]
      exact h2.cells b off rfl j h1
    by_cases hroom : l.length + m.length ≤ cap
    · have hr := run_append_room_cells (P := Tryz.prog) w 42 ty 5 i sunder_bytes hi g 0 l.length cap ⟨b, off, none⟩ m.length c2 (lBv m) (by rw [lBv_length, hz1, Nat.mul_one]) hnews (lBv_one m) hroom
        (fun j hj => by rw [hz1, Nat.mul_one, Nat.zero_add]; exact h.some _ (by rw [lBv_length] at hj; omega)) (fun j hj => by rw [hz1, Nat.mul_one, Nat.zero_add]; exact h.free _ (by rw [lBv_length] at hj; omega))
      rw [hz1, Nat.mul_one, Nat.zero_add] at hr
      exact ⟨g, cap, _, by rw [hlen]; exact hr, ownB_more h hroom, Lib.below_setCells g h.base _ _ (Below.refl _ _)⟩
    · have hr := run_append_grow (P := Tryz.prog) w 42 ty 5 i (.int .u8 0) sunder_bytes hi hz0 ⟨g, 0, none⟩ l.length cap (lBv l) (by rw [lBv_length, hz1, Nat.mul_one]) (fun j u hj => by
          obtain ⟨h1, rfl⟩ := lBv_at hj
          rw [Addr.add_lit, Nat.zero_add]
          exact h.cells j h1) ⟨b, off, none⟩ m.length c2 (lBv m) (by rw [lBv_length, hz1, Nat.mul_one]) hnews (by omega) (by omega) (growslice_fits (by omega) (by rw [hz2]; omega))
      exact ⟨_, _, _, by rw [hlen]; exact hr, ownB_grown w base _ l m hbase (grownCap_ge _ _ _ _) (grownCap_le_maxLen _ _ _ _ (by unfold maxLen; omega)), (Below.refl _ _).drew.alloc hbase _⟩
theorem strCells_strL (l : List UInt8) : Lib.strCells (strL l) = lBv l := by
  unfold Lib.strCells strL lBv
  simp
theorem run_app_str {w : World} {base g cap : Nat} {l m : List UInt8} (ty : TypeId) (h : OwnB w base g cap l) (hbase : base ≤ w.heap.size) (hsz : l.length + m.length ≤ 140737488355328) :
    ∃ g' cap' w', (Builtin.append_ #[42, 9] ty #[.slice (some ⟨g, 0, none⟩) l.length cap, .string (strL m)]).run Tryz.prog w = .ok (.slice (some ⟨g', 0, none⟩) (l ++ m).length cap') w' ∧ OwnB w' base g' cap' (l ++ m) ∧ Below base w w' := by
  obtain ⟨i, hi, hz0, hz1, hz2⟩ := info_parts sinfo_byte
  have hlen : (l ++ m).length = l.length + m.length := List.length_append
  have hms : (strL m).size = m.length := strL_size m
  by_cases hroom : l.length + m.length ≤ cap
  · have hf := Lib.run_firstCells_string (P := Tryz.prog) w 1 (strL m)
    have hst := run_storeCells_cells (P := Tryz.prog) g l.length (lBv m) 0 w (fun j hj => by rw [Nat.add_zero]; exact h.some _ (by rw [lBv_length] at hj; omega)) (fun j hj => by rw [Nat.add_zero]; exact h.free _ (by rw [lBv_length] at hj; omega)) (lBv_one m)
    rw [hms, strCells_strL] at hf
    rw [Nat.add_zero] at hst
    refine ⟨g, cap, _, ?_, ownB_more h hroom, Lib.below_setCells g h.base _ _ (Below.refl _ _)⟩
    rw [hlen]
    simp [Builtin.append_, run_underlying sunder_bytes, run_underlying sunder_str, sizeOf, typeInfo, hi, hz1, Builtin.lenOf, hms, hroom, hf, Addr.add_lit, hst]
  · have hr := Lib.run_append_grow_string (P := Tryz.prog) w 42 9 ty 5 i (.int .u8 0) sunder_bytes sunder_str hi hz0 ⟨g, 0, none⟩ l.length cap (lBv l) (by rw [lBv_length, hz1, Nat.mul_one]) (fun j u hj => by
          obtain ⟨h1, rfl⟩ := lBv_at hj
          rw [Addr.add_lit, Nat.zero_add]
          exact h.cells j h1) (strL m) (by omega) (by omega) (growslice_fits (by omega) (by rw [hz2]; omega))
    rw [hms, strCells_strL] at hr
    exact ⟨_, _, _, by rw [hlen]; exact hr, ownB_grown w base _ l m hbase (grownCap_ge _ _ _ _) (grownCap_le_maxLen _ _ _ _ (by unfold maxLen; omega)), (Below.refl _ _).drew.alloc hbase _⟩
/-- append, for the walk. -/
theorem wpList_app {w : World} {ops : Array Oper} {rest : List Oper} {o : Oper} {a : Act} {Q : Exit → Act → World → Prop} (hgd : o.guard = none) (s x : Operand)
    (ho : o.op = .call { callee := .builtin .append, args := #[s, x], argTypes := #[42, 42] }) (base : Nat) (l m : List UInt8) {g cap c2 n k : Nat} {A : Option Addr}
    (hs : a.eval s = .slice (some ⟨g, 0, none⟩) n cap) (hn : n = l.length) (hx : a.eval x = .slice A k c2) (hk : k = m.length) (h1 : OwnB w base g cap l) (h2 : RdB w w.heap.size A m) (hbase : base ≤ w.heap.size) (hsz : l.length + m.length ≤ 140737488355328)
    (h : ∀ g' cap' w', OwnB w' base g' cap' (l ++ m) → Below base w w' → wpList Tryz.prog ops Q rest (a.put o.dst (.slice (some ⟨g', 0, none⟩) (l ++ m).length cap')) w') : wpList Tryz.prog ops Q (o :: rest) a w := by
  subst hn; subst hk
  obtain ⟨g', cap', w', hr, h3, h4⟩ := run_app (c2 := c2) o.type h1 h2 hbase hsz
  refine wpList_plain hgd fun K hK => ?_
  unfold Oper.wp execOp
  simp only [ho, resolve, invoke, builtin, Sem.run_bind, Sem.run_pure, Result.andThen_ok, List.map_toArray, List.map_cons, List.map_nil, hs, hx, hr]
  exact hK _ _ (h g' cap' w' h3 h4)
theorem wpList_app_str {w : World} {ops : Array Oper} {rest : List Oper} {o : Oper} {a : Act} {Q : Exit → Act → World → Prop} (hgd : o.guard = none) (s x : Operand)
    (ho : o.op = .call { callee := .builtin .append, args := #[s, x], argTypes := #[42, 9] }) (base : Nat) (l m : List UInt8) {g cap n : Nat}
    (hs : a.eval s = .slice (some ⟨g, 0, none⟩) n cap) (hn : n = l.length) (hx : a.eval x = .string (strL m)) (h1 : OwnB w base g cap l) (hbase : base ≤ w.heap.size) (hsz : l.length + m.length ≤ 140737488355328)
    (h : ∀ g' cap' w', OwnB w' base g' cap' (l ++ m) → Below base w w' → wpList Tryz.prog ops Q rest (a.put o.dst (.slice (some ⟨g', 0, none⟩) (l ++ m).length cap')) w') : wpList Tryz.prog ops Q (o :: rest) a w := by
  subst hn
  obtain ⟨g', cap', w', hr, h3, h4⟩ := run_app_str o.type h1 hbase hsz
  refine wpList_plain hgd fun K hK => ?_
  unfold Oper.wp execOp
  simp only [ho, resolve, invoke, builtin, Sem.run_bind, Sem.run_pure, Result.andThen_ok, List.map_toArray, List.map_cons, List.map_nil, hs, hx, hr]
  exact hK _ _ (h g' cap' w' h3 h4)
end Go.Proofs.YtobokaafmcfeaaaGreatDoor
namespace Go.Proofs.YtobokaafmcfeaaaGreatDoor
open Go.RowKit Go.Cal
theorem strL_app (a b : List UInt8) : strL a ++ strL b = strL (a ++ b) := by
  unfold strL
  apply ByteArray.ext
  simp
end Go.Proofs.YtobokaafmcfeaaaGreatDoor
namespace Go.Proofs.YtobokaafmcfeaaaGreatDoor
open Go.RowKit Go.Cal
end Go.Proofs.YtobokaafmcfeaaaGreatDoor
namespace Go.Proofs.YtobokaafmcfeaaaGreatDoor
open Go.RowKit Go.Cal
end Go.Proofs.YtobokaafmcfeaaaGreatDoor
namespace Go.Proofs.YtobokaafmcfeaaaGreatDoor
open Go.ChangeShapes Go.WideShapes Go.ChangeAt Go.RowKit Go.Cal
end Go.Proofs.YtobokaafmcfeaaaGreatDoor
namespace Go.Proofs.YtobokaafmcfeaaaGreatDoor
open Go.ChangeShapes Go.WideShapes Go.ChangeAt Go.RowKit Go.Cal Go.Maps
end Go.Proofs.YtobokaafmcfeaaaGreatDoor
namespace Go.Proofs.YtobokaafmcfeaaaGreatDoor
open Go.ChangeShapes Go.WideShapes Go.ChangeAt Go.RowKit Go.Cal
end Go.Proofs.YtobokaafmcfeaaaGreatDoor
namespace Go.Proofs.YtobokaafmcfeaaaGreatDoor
open Go.ChangeShapes Go.WideShapes Go.ChangeAt Go.RowKit Go.Cal
end Go.Proofs.YtobokaafmcfeaaaGreatDoor
namespace Go.Proofs.YtobokaafmcfeaaaGreatDoor
open Go.ChangeShapes Go.WideShapes Go.ChangeAt Go.RowKit Go.Cal
end Go.Proofs.YtobokaafmcfeaaaGreatDoor
namespace Go.Proofs.YtobokaafmcfeaaaGreatDoor
open Go.ChangeShapes Go.WideShapes Go.ChangeAt Go.RowKit Go.Cal
section
variable {H : Type} {enc : TypeId × Value → H} {P : Program} {w : World} {base : Nat} {spare : Nat → Bool} {held : Bool}
theorem trodAll_five {t t' t'' t3 t4 : TypeId} {args : Array Value} {ds : List (DataW H)} {ps : List MemPlace} (h : DataW.TrodAll enc P w base spare held [t, t', t'', t3, t4] args.toList ds ps) :
    ∃ v v' v'' v3 v4 d d' d'' d3 d4 p p' p'' p3 p4, args = #[v, v', v'', v3, v4] ∧ ds = [d, d', d'', d3, d4] ∧ ps = p ++ p' ++ p'' ++ p3 ++ p4 ∧ DataW.Trod enc P w base spare held t v d p ∧ DataW.Trod enc P w base spare held t' v' d' p' ∧ DataW.Trod enc P w base spare held t'' v'' d'' p'' ∧ DataW.Trod enc P w base spare held t3 v3 d3 p3 ∧ DataW.Trod enc P w base spare held t4 v4 d4 p4 := by
  obtain ⟨v, vs, d, ds', p, q, hargs, rfl, rfl, hd, hrest⟩ := trodAll_cons h
  obtain ⟨v', vs', d', ds'', p', q', rfl, rfl, rfl, hd', hrest'⟩ := trodAll_cons hrest
  obtain ⟨v'', vs'', d'', ds''', p'', q'', rfl, rfl, rfl, hd'', hrest''⟩ := trodAll_cons hrest'
  obtain ⟨v3, vs3, d3, ds3, p3, q3, rfl, rfl, rfl, hd3, hrest3⟩ := trodAll_cons hrest''
  obtain ⟨v4, vs4, d4, ds4, p4, q4, rfl, rfl, rfl, hd4, hrest4⟩ := trodAll_cons hrest3
  obtain ⟨rfl, rfl, rfl⟩ := trodAll_nil hrest4
  exact ⟨v, v', v'', v3, v4, d, d', d'', d3, d4, p, p', p'', p3, p4, by cases args; simp_all, rfl, by simp, hd, hd', hd'', hd3, hd4⟩
theorem trodAll_mk5 {t t' t'' t3 t4 : TypeId} {v v' v'' v3 v4 : Value} {d d' d'' d3 d4 : DataW H} {p p' p'' p3 p4 : List MemPlace} (h : DataW.Trod enc P w base spare held t v d p) (h' : DataW.Trod enc P w base spare held t' v' d' p')
    (h'' : DataW.Trod enc P w base spare held t'' v'' d'' p'') (h3 : DataW.Trod enc P w base spare held t3 v3 d3 p3) (h4 : DataW.Trod enc P w base spare held t4 v4 d4 p4) : DataW.TrodAll enc P w base spare held [t, t', t'', t3, t4] [v, v', v'', v3, v4] [d, d', d'', d3, d4] (p ++ (p' ++ (p'' ++ (p3 ++ p4)))) := ⟨p, p' ++ (p'' ++ (p3 ++ p4)), h, trodAll_mk4 h' h'' h3 h4, rfl⟩
end
end Go.Proofs.YtobokaafmcfeaaaGreatDoor
namespace Go.Proofs.YtobokaafmcfeaaaGreatDoor
open Go.RowKit Go.Cal
end Go.Proofs.YtobokaafmcfeaaaGreatDoor
namespace Go.Proofs.YtobokaafmcfeaaaGreatDoor
open Go.RowKit Go.Cal
end Go.Proofs.YtobokaafmcfeaaaGreatDoor
