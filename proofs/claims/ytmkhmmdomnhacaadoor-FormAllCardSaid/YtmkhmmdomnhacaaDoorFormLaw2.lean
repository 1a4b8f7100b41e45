/- The walk of one statement of the forms layer more: FormShapes. Condition: the table of the forms stands in block 0. -/
import Derived.Test.YtmkhmmdomnhacaaDoorFormLaw
namespace Go.Proofs.YtmkhmmdomnhacaaDoor
open Go.RowKit Go.Cal
theorem i64_and63 (n : Int) : bits .and .i64 n 63 = n % 64 := by
  have h127 : (BitVec.ofInt 64 63).toNat = 2 ^ 6 - 1 := by decide
  have key : (BitVec.ofInt 64 n &&& BitVec.ofInt 64 63).toNat = (n % ((2 ^ 64 : Nat) : Int)).toNat % 2 ^ 6 := by
    rw [BitVec.toNat_and, BitVec.toNat_ofInt, h127, Nat.and_two_pow_sub_one_eq_mod]
  show IntKind.i64.wrap ((BitVec.ofInt 64 n &&& BitVec.ofInt 64 63).toNat : Nat) = n % 64
  rw [key, IntKind.wrap_i64]
  omega
def sgV (id : Int) : Int := if fK id = 4 then 0 else 2 ^ ((fW id).toNat - 1)
theorem shapes_pure (i : Fin 15) (b : Fin 64) : ((bits .and .u64 ((2 ^ (fW i.val).toNat - 1) / 2 ^ b.val) 1 == 1) = decide ((b.val : Int) < fW i.val)) ∧
    ((bits .and .u64 (sgV i.val / 2 ^ b.val) 1 == 1) = (((b.val : Int) == fW i.val - 1) && (fK i.val != 4))) := by
  revert i b
  decide +kernel
theorem top_fits {id : Int} (h1 : 1 ≤ id) (h2 : id < 15) : fitsV id (fT id) = 0 ∧ fitsV id (fI id) = 0 ∧ fitsV id (fN id) = 0 := by
  rcases id_cases h1 h2 with rfl | rfl | rfl | rfl | rfl | rfl | rfl | rfl | rfl | rfl | rfl | rfl | rfl | rfl <;> decide +kernel
theorem sgV_bounds (id : Int) : 0 ≤ sgV id ∧ sgV id < 18446744073709551616 := by
  obtain ⟨hw0, hw1, hw2, -⟩ := ft_bounds id
  unfold sgV
  split
  · omega
  · have := pow_le63 ((fW id).toNat - 1) (by omega)
    have := pow_pos ((fW id).toNat - 1)
    omega
theorem sign_all (id : Int) (w : World) : Calls Tryd.prog 13 #[.agg #[.int .i64 (fK id), .int .i64 (fW id), .int .i64 (fM id), .int .i64 (fB id), .int .u64 (fT id), .int .u64 (fI id), .int .u64 (fN id)]] w fun e w' => e = .returned (.int .u64 (sgV id)) ∧ Below w.heap.size w w' := by
  obtain ⟨hw0, hw1, hw2, -⟩ := ft_bounds id
  by_cases hk : fK id = 4
  · rw [show sgV id = 0 by unfold sgV; rw [if_pos hk], hk]; exact sign_no _ _ _ _ _ _ w
  · rw [show sgV id = 2 ^ ((fW id).toNat - 1) by unfold sgV; rw [if_neg hk]]; exact sign_yes _ _ _ _ _ _ _ w (by omega) hw1 hk
set_option maxHeartbeats 1000000 in
theorem formShapes_yes (id bit : Int) (w : World) (hT : TabF w) (h1 : 1 ≤ id) (h2 : id < 15) (b : Nat) (hb : bits .and .i64 bit 63 = b) (hb1 : b < 64) (x y z : Bool)
    (e1 : (bits .and .u64 ((2 ^ (fW id).toNat - 1) / 2 ^ b) 1 == 1) = x) (e2 : decide ((b : Int) < fW id) = x) (e3 : ((b : Int) == fW id - 1) = y) (e4 : (fK id != 4) = z) (e5 : (bits .and .u64 (sgV id / 2 ^ b) 1 == 1) = (y && z)) :
    Calls Tryd.prog 6 #[.int .i64 id, .int .i64 bit] w fun e w' => e = .returned (.bool true) ∧ Below w.heap.size w w' := by
  obtain ⟨hw0, hw1, hw2, ht0, hi0, hn0, ht1, hi1, hn1⟩ := ft_bounds id
  obtain ⟨t1, t2, t3⟩ := top_fits h1 h2
  obtain ⟨hs0, hs2⟩ := sgV_bounds id
  have hpp := pow_pos (fW id).toNat
  cases x <;> cases y <;> cases z
  all_goals
    simp only [Bool.and_self, Bool.and_true, Bool.and_false] at e5
    go_enter Tryd.func6, Tryd.ntmps6
    go_wp2_with fail
    refine (shown_any _ hT).mono ?_
    rintro e w1 ⟨rfl, hb1⟩; have hz1 := hb1.size; (try simp at hz1); (try replace hz1 := Nat.lt_of_succ_le hz1); obtain ⟨hc1, hf1⟩ := bcell hb1
    have hT1 := hT.below hb1
    go_wp2_with fail
    refine (of_yes _ _ hT1 h1 h2).mono ?_
    rintro e w2 ⟨rfl, hb2⟩; have hz2 := hb2.size; (try simp at hz2); (try replace hz2 := Nat.lt_of_succ_le hz2); obtain ⟨hc2, hf2⟩ := bcell hb2
    have hT2 := (hT1.below hb2).alloc (.cells #[.int .i64 (fK id), .int .i64 (fW id), .int .i64 (fM id), .int .i64 (fB id), .int .u64 (fT id), .int .u64 (fI id), .int .u64 (fN id)] 25)
    go_wp2_with fail
    refine (mask_any _ _ _ _ _ _ _ _ hw0 hw1).mono ?_
    rintro e w3 ⟨rfl, hb3⟩; have hz3 := hb3.size; (try simp at hz3); (try replace hz3 := Nat.lt_of_succ_le hz3); obtain ⟨hc3, hf3⟩ := bcell hb3
    have hT3 := hT2.below hb3
    go_wp2_with fail
    refine (sign_all _ _).mono ?_
    rintro e w4 ⟨rfl, hb4⟩; have hz4 := hb4.size; (try simp at hz4); (try replace hz4 := Nat.lt_of_succ_le hz4); obtain ⟨hc4, hf4⟩ := bcell hb4
    have hT4 := hT3.below hb4
    have hz24 := Nat.lt_of_lt_of_le hz3 hz4
    go_wp2_with fail
    refine (fits_any _ _ _ hT4 (by omega) ht1).mono ?_
    rintro e w5 ⟨rfl, hb5⟩; have hz5 := hb5.size; (try simp at hz5); (try replace hz5 := Nat.lt_of_succ_le hz5); obtain ⟨hc5, hf5⟩ := bcell hb5
    have hT5 := hT4.below hb5
    have hz25 := Nat.lt_of_lt_of_le hz24 hz5
    go_wp2_with fail
    refine (fits_any _ _ _ hT5 hi0 hi1).mono ?_
    rintro e w6 ⟨rfl, hb6⟩; have hz6 := hb6.size; (try simp at hz6); (try replace hz6 := Nat.lt_of_succ_le hz6); obtain ⟨hc6, hf6⟩ := bcell hb6
    have hT6 := hT5.below hb6
    have hz26 := Nat.lt_of_lt_of_le hz25 hz6
    go_wp2_with fail
    refine (fits_any _ _ _ hT6 hn0 hn1).mono ?_
    rintro e w7 ⟨rfl, hb7⟩; have hz7 := hb7.size; (try simp at hz7); (try replace hz7 := Nat.lt_of_succ_le hz7); obtain ⟨hc7, hf7⟩ := bcell hb7
    have hz27 := Nat.lt_of_lt_of_le hz26 hz7
    go_wp2
    go_ret
    exact ⟨by simp, chain (chain (chain (chain (chain (chainA (chain hb1 hb2) _) hb3) hb4) hb5) hb6) hb7⟩
theorem formShapes_any (id bit : Int) (w : World) (hT : TabF w) :
    Calls Tryd.prog 6 #[.int .i64 id, .int .i64 bit] w fun e w' => e = .returned (.bool true) ∧ Below w.heap.size w w' := by
  by_cases h : id < 1 ∨ 15 ≤ id
  · go_enter Tryd.func6, Tryd.ntmps6
    go_wp2_with fail
    refine (shown_any _ hT).mono ?_
    rintro e w1 ⟨rfl, hb1⟩; have hz1 := hb1.size; (try simp at hz1); (try replace hz1 := Nat.lt_of_succ_le hz1); obtain ⟨hc1, hf1⟩ := bcell hb1
    go_wp2_with fail
    refine (of_no _ _ h).mono ?_
    rintro e w2 ⟨rfl, hb2⟩; have hz2 := hb2.size; (try simp at hz2); (try replace hz2 := Nat.lt_of_succ_le hz2); obtain ⟨hc2, hf2⟩ := bcell hb2
    go_wp2
    go_ret
    exact ⟨by simp, chainA (chain hb1 hb2) _⟩
  · obtain ⟨n, hn⟩ := Int.eq_ofNat_of_zero_le (show 0 ≤ bit % 64 by omega)
    obtain ⟨i, rfl⟩ := Int.eq_ofNat_of_zero_le (show 0 ≤ id by omega)
    have hp := shapes_pure ⟨i, by omega⟩ ⟨n, by omega⟩
    exact formShapes_yes i bit w hT (by omega) (by omega) n (by rw [i64_and63, hn]) (by omega) _ _ _ hp.1 rfl rfl rfl hp.2
end Go.Proofs.YtmkhmmdomnhacaaDoor
