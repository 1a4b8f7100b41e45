/- The law NatPowers, walked. Condition: the table of powers reads as it is laid. -/
import Derived.Test.YtniffclplmgcfaaGreatDoorRefK
namespace Go.Proofs.YtniffclplmgcfaaGreatDoor
open Go.RowKit Go.Cal
set_option maxRecDepth 100000 in
set_option maxHeartbeats 1000000 in
theorem natPowers_any (b : Int) (n : Int) (w : World) (hT : Tab10 w) (hb : 0 ≤ b ∧ b ≤ 18446744073709551615) (_hn : -9223372036854775808 ≤ n ∧ n ≤ 9223372036854775807) :
    Calls Tryz.prog 6 #[.int .u64 b, .int .i64 n] w fun e w' => e = .returned (.bool true) ∧ Below w.heap.size w w' := by
  obtain ⟨base, rfl⟩ : ∃ k : Nat, b = (k : Int) := ⟨b.toNat, by omega⟩
  have hb64 : base < 18446744073709551616 := by omega
  obtain ⟨m, hm⟩ : ∃ m : Int, n.tmod 66 - 5 = m := ⟨_, rfl⟩
  have hr1 := Int.tmod_lt_of_pos n (b := 66) (by omega)
  have hr2 := Int.lt_tmod_of_pos n (b := 66) (by omega)
  obtain ⟨n0, hn0⟩ : ∃ k : Nat, max m 0 = (k : Int) := ⟨(max m 0).toNat, by omega⟩
  have hn2 : n0 ≤ 60 := by omega
  have hmin : (min (max m 0) 10000).toNat = n0 := by omega
  obtain ⟨t, ht⟩ : ∃ t : Int, n.tmod 66 = t := ⟨_, rfl⟩
  rw [ht] at hm hr1 hr2
  replace hmin := Lib.hid hmin
  clear hb
  replace hb64 := Lib.hid hb64
  go_enter Tryz.func6, Tryz.ntmps6
  have hL := LiveP.start w
  go_wp2_with fail; refine (shown_any w hT).mono ?_; rintro e w1 ⟨rfl, hb⟩; replace hL := hL.go hb; clear hb
  go_wp2_with fail; refine (pow_t _ base hb64.out m n0 hmin.out).mono ?_; rintro e w1 ⟨p, rfl, hv, hb⟩; replace hL := (hL.go hb).put (pT_st _ _ _) hv; clear hb hv
  go_wp2_with fail; refine (rpow_any base n0 hb64.out (by omega) _).mono ?_; rintro e w1 ⟨q, rfl, hv, hb⟩; replace hL := (hL.go hb).put (pH_st _ _ _) hv; clear hb hv
  go_wp2_with fail; refine (same_t _ (k1 := n0 + 1) (k2 := 2 * n0 + 1) (N := base ^ n0) (hL.get (P := pT p (n0 + 1) (base ^ n0)) (by repeat (first | exact List.mem_cons_self | apply List.mem_cons_of_mem))) (hL.get (P := pH q (2 * n0 + 1) (base ^ n0)) (by repeat (first | exact List.mem_cons_self | apply List.mem_cons_of_mem))) (by omega) (by omega)).mono ?_; rintro e w1 ⟨rfl, hb⟩; replace hL := hL.go hb; clear hb
  go_wp2
  go_ret
  exact ⟨rfl, hL.below⟩
end Go.Proofs.YtniffclplmgcfaaGreatDoor
