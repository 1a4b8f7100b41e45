/- The nat layer, second part: order and bits. Conditions: lengths below 2^40. -/
import Derived.Test.YtjhdkdfiadlmcaaGreatDoorNatA
namespace Go.Proofs.YtjhdkdfiadlmcaaGreatDoor
open Go.RowKit Go.Cal

set_option maxHeartbeats 400000 in
theorem cmpInt_any (a b : Int) (w : World) : Calls Tryz.prog 48 #[.int .i64 a, .int .i64 b] w fun e w' => e = .returned (.int .i64 (cmpV a b)) ∧ w = w' := by
  by_cases h1 : a < b
  · have hv := Lib.hid (show cmpV a b = -1 by unfold cmpV; rw [if_pos h1])
    go_enter Tryz.func48, Tryz.ntmps48
    go_wp2
    go_ret
    exact ⟨by rw [hv.out]; rfl, rfl⟩
  · by_cases h2 : b < a
    · have hv := Lib.hid (show cmpV a b = 1 by unfold cmpV; rw [if_neg h1, if_pos h2])
      go_enter Tryz.func48, Tryz.ntmps48
      go_wp2
      go_ret
      exact ⟨by rw [hv.out]; rfl, rfl⟩
    · have hv := Lib.hid (show cmpV a b = 0 by unfold cmpV; rw [if_neg h1, if_neg h2])
      go_enter Tryz.func48, Tryz.ntmps48
      go_wp2
      go_ret
      exact ⟨by rw [hv.out]; rfl, rfl⟩
set_option maxHeartbeats 400000 in
theorem cmpU64_any (a b : Int) (w : World) : Calls Tryz.prog 49 #[.int .u64 a, .int .u64 b] w fun e w' => e = .returned (.int .i64 (cmpV a b)) ∧ w = w' := by
  by_cases h1 : a < b
  · have hv := Lib.hid (show cmpV a b = -1 by unfold cmpV; rw [if_pos h1])
    go_enter Tryz.func49, Tryz.ntmps49
    go_wp2
    go_ret
    exact ⟨by rw [hv.out]; rfl, rfl⟩
  · by_cases h2 : b < a
    · have hv := Lib.hid (show cmpV a b = 1 by unfold cmpV; rw [if_neg h1, if_pos h2])
      go_enter Tryz.func49, Tryz.ntmps49
      go_wp2
      go_ret
      exact ⟨by rw [hv.out]; rfl, rfl⟩
    · have hv := Lib.hid (show cmpV a b = 0 by unfold cmpV; rw [if_neg h1, if_neg h2])
      go_enter Tryz.func49, Tryz.ntmps49
      go_wp2
      go_ret
      exact ⟨by rw [hv.out]; rfl, rfl⟩
set_option maxHeartbeats 1000000 in
theorem cmp_any {B : Nat} {A1 A2 : Option Addr} {xs ys : List Nat} (c1 c2 : Nat) (w : World) (h1 : RdU w B A1 xs) (h2 : RdU w B A2 ys) (hc1 : xs.length ≤ c1) (hc2 : ys.length ≤ c2) (hn1 : xs.length ≤ 1099511627776) (hn2 : ys.length ≤ 1099511627776)
    (d1 : Dig 18446744073709551616 xs) (d2 : Dig 18446744073709551616 ys) :
    Calls Tryz.prog 20 #[.slice A1 xs.length c1, .slice A2 ys.length c2] w fun e w' => e = .returned (.int .i64 (cmpV (vl 18446744073709551616 xs : Nat) (vl 18446744073709551616 ys : Nat))) ∧ Drawn w w' := by
  have hl1 := hn1
  have hl2 := hn2
  go_enter Tryz.func20, Tryz.ntmps20
  go_wp2_with fail
  refine (trim_nat _ _ h1 hc1 hn1 d1).mono ?_
  rintro e w1 ⟨⟨zs1, rfl, r1, t1, e1, v1, l1⟩, rfl⟩
  go_wp2_with fail
  refine (trim_nat _ _ h2 hc2 hn2 d2).mono ?_
  rintro e w1 ⟨⟨zs2, rfl, r2, t2, e2, v2, l2⟩, rfl⟩
  replace v1 := Lib.hid v1
  replace v2 := Lib.hid v2
  clear h1 h2
  go_wp2_with fail
  refine (cmpInt_any _ _ _).mono ?_
  rintro e w1 ⟨rfl, rfl⟩
  rcases cmpV_cases (zs1.length : Int) (zs2.length : Int) with ⟨hl, hv⟩ | ⟨hl, hv⟩ | ⟨hl, hv⟩
  · rw [hv]
    replace hv := Lib.hid hv
    go_wp2
    go_ret
    exact ⟨by rw [← v1.out, ← v2.out, cmpV_lt (by exact_mod_cast vl_lt_of_length (by omega) e1 t2 (by omega))]; rfl, .refl _⟩
  · rw [hv]
    replace hv := Lib.hid hv
    go_wp2
    go_ret
    exact ⟨by rw [← v1.out, ← v2.out, cmpV_gt (by exact_mod_cast vl_lt_of_length (by omega) e2 t1 (by omega))]; rfl, .refl _⟩
  · rw [hv]
    replace hv := Lib.hid hv
    replace hl := Lib.hid hl
    go_wp2
    go_loopw [6] (fun i wr => ∃ m : Nat, m ≤ zs1.length ∧ i = .int .i64 ((m : Int) - 1) ∧ Hid (zs1.drop m = zs2.drop m) ∧ Drawn w wr) (fun i _ => (intOf i + 1).toNat)
    case atStart => exact ⟨zs1.length, by omega, rfl, by have := hl.out; rw [List.drop_of_length_le (by omega), List.drop_of_length_le (by omega)]; rfl, .refl _⟩
    case round =>
      obtain ⟨m, hm, rfl, hd, hdw⟩ := hrel
      by_cases h0 : m = 0
      · subst h0
        go_wp2
        go_ret
        exact ⟨by rw [← v1.out, ← v2.out, cmpV_eq (by have := hd.out; simp at this; rw [this])]; rfl, hdw⟩
      · obtain ⟨m, rfl⟩ : ∃ k, m = k + 1 := ⟨m - 1, by omega⟩
        have hl' := hl.out
        obtain ⟨b1, o1, rfl, hb1, hc1⟩ := (r1.drawn hdw).at (i := m) (by omega)
        obtain ⟨b2, o2, rfl, hb2, hc2⟩ := (r2.drawn hdw).at (i := m) (by omega)
        have hx := hc1 m (by omega)
        have hy := hc2 m (by omega)
        have hi1 : (m : Int) < (zs1.length : Int) := by omega
        have hi2 : (m : Int) < (zs2.length : Int) := by omega
        have hl3 : zs1.length = zs2.length := by omega
        replace hl3 := Lib.hid hl3
        clear hc1 hc2 hl'
        rw [show ((m + 1 : Nat) : Int) - 1 = (m : Int) by omega]
        rcases cmpV_cases ((zs1.getD m 0 : Nat) : Int) ((zs2.getD m 0 : Nat) : Int) with ⟨hq, hv⟩ | ⟨hq, hv⟩ | ⟨hq, hv⟩
        · replace hq := Lib.hid hq
          have hcall := fun W : World => cmpU64_any ((zs1.getD m 0 : Nat) : Int) ((zs2.getD m 0 : Nat) : Int) W
          rw [hv] at hcall
          replace hcall := Lib.hid hcall
          replace hv := Lib.hid hv
          go_wp2_with fail
          go_quiet ((go_at_call 49; exact Calls.quiet_of_same ((hcall.out _).mono fun _ _ ⟨h, h'⟩ => ⟨h, h'.symm⟩)))
          go_wp2
          go_ret
          exact ⟨by rw [← v1.out, ← v2.out, cmpV_lt (by exact_mod_cast vl_lex e1 hl3.out (by omega) hd.out (by exact_mod_cast hq.out))]; rfl, hdw.drewN _⟩
        · replace hq := Lib.hid hq
          have hcall := fun W : World => cmpU64_any ((zs1.getD m 0 : Nat) : Int) ((zs2.getD m 0 : Nat) : Int) W
          rw [hv] at hcall
          replace hcall := Lib.hid hcall
          replace hv := Lib.hid hv
          go_wp2_with fail
          go_quiet ((go_at_call 49; exact Calls.quiet_of_same ((hcall.out _).mono fun _ _ ⟨h, h'⟩ => ⟨h, h'.symm⟩)))
          go_wp2
          go_ret
          exact ⟨by rw [← v1.out, ← v2.out, cmpV_gt (by exact_mod_cast vl_lex e2 hl3.out.symm (by omega) hd.out.symm (by exact_mod_cast hq.out))]; rfl, hdw.drewN _⟩
        · replace hq := Lib.hid hq
          have hcall := fun W : World => cmpU64_any ((zs1.getD m 0 : Nat) : Int) ((zs2.getD m 0 : Nat) : Int) W
          rw [hv] at hcall
          replace hcall := Lib.hid hcall
          replace hv := Lib.hid hv
          go_wp2_with fail
          go_quiet ((go_at_call 49; exact Calls.quiet_of_same ((hcall.out _).mono fun _ _ ⟨h, h'⟩ => ⟨h, h'.symm⟩)))
          go_wp2
          exact ⟨⟨m, by omega, rfl, drop_step hl3.out (by omega) hd.out (by exact_mod_cast hq.out), hdw.drewN _⟩, by simp [intOf]⟩
end Go.Proofs.YtjhdkdfiadlmcaaGreatDoor
