/- The law NatShifts, walked. Condition: the table of powers reads as it is laid. -/
import Derived.Test.YtniffclplmgcfaaGreatDoorRefK
namespace Go.Proofs.YtniffclplmgcfaaGreatDoor
open Go.RowKit Go.Cal
def pR (A : Option Addr) (zs : List Nat) (w : World) : Prop := RdU w w.heap.size A zs
theorem pR_st (A : Option Addr) (zs : List Nat) : Stable (pR A zs) := fun _ _ h hb => (RdU.below h hb).more hb.size
theorem shift_fits {b X k e n j : Nat} (hb : b = 2 ^ e) (h : X < b ^ k) (hn : n ≤ e * j) : X * 2 ^ n < b ^ (k + j) := by
  rw [Nat.pow_add]
  refine Nat.lt_of_lt_of_le (Nat.mul_lt_mul_of_pos_right h (Nat.two_pow_pos n)) (Nat.mul_le_mul_left _ ?_)
  rw [hb, ← Nat.pow_mul]
  exact Nat.pow_le_pow_right (by omega) hn
theorem bit_t {w : World} {v1 : Value} {k1 X : Nat} (i : Nat) (hi : i ≤ 9223372036854775807) (h : IsN w v1 k1 X) :
    Calls Tryz.prog 28 #[v1, .int .i64 i] w fun e w' => e = .returned (.bool (X.testBit i)) ∧ w = w' := by
  obtain ⟨A1, c1, z1, rfl, r1, hc1, hl1, d1, rfl⟩ := h
  exact bit_any c1 i hi w r1 d1
theorem even_t {w : World} {v1 : Value} {k1 X : Nat} (h : IsN w v1 k1 X) :
    Calls Tryz.prog 30 #[v1] w fun e w' => e = .returned (.bool (!X.testBit 0)) ∧ w = w' := by
  obtain ⟨A1, c1, z1, rfl, r1, hc1, hl1, d1, rfl⟩ := h
  exact even_any c1 w r1 d1
theorem bits_t {w : World} {v1 : Value} {k1 X : Nat} (h : IsN w v1 k1 X) (b1 : k1 ≤ 1048576) :
    Calls Tryz.prog 26 #[v1] w fun e w' => e = .returned (.int .i64 (blen X : Nat)) ∧ w = w' := by
  obtain ⟨A1, c1, z1, rfl, r1, hc1, hl1, d1, rfl⟩ := h
  exact bits_any c1 w r1 hc1 (by omega) d1
set_option maxRecDepth 100000 in
set_option maxHeartbeats 1000000 in
theorem natShifts_any (v1 : Value) (n : Int) (q : Int) (w : World) (hT : Tab10 w) (ha1 : ArgN w v1) (_hn : -9223372036854775808 ≤ n ∧ n ≤ 9223372036854775807) (hq : 0 ≤ q ∧ q ≤ 18446744073709551615) :
    Calls Tryz.prog 4 #[v1, .int .i64 n, .int .u64 q] w fun e w' => e = .returned (.bool true) ∧ Below w.heap.size w w' := by
  obtain ⟨z, rfl⟩ : ∃ k : Nat, q = (k : Int) := ⟨q.toNat, by omega⟩
  have hz : z < 18446744073709551616 := by omega
  obtain ⟨t, ht⟩ : ∃ t : Int, n.tmod 2101 = t := ⟨_, rfl⟩
  obtain ⟨m, hm⟩ : ∃ m : Int, t - 10 = m := ⟨_, rfl⟩
  have hr1 := Int.tmod_lt_of_pos n (b := 2101) (by omega)
  have hr2 := Int.lt_tmod_of_pos n (b := 2101) (by omega)
  rw [ht] at hr1 hr2
  obtain ⟨n0, hn0⟩ : ∃ k : Nat, max m 0 = (k : Int) := ⟨(max m 0).toNat, by omega⟩
  have hn2 : n0 ≤ 2090 := by omega
  have hmin : (min (max m 0) 131072).toNat = n0 := by omega
  replace hmin := Lib.hid hmin
  replace hz := Lib.hid hz
  clear hq
  go_enter Tryz.func4, Tryz.ntmps4
  have hL := LiveP.start w
  go_wp2_with fail; refine (shown_any w hT).mono ?_; rintro e w1 ⟨rfl, hb⟩; replace hL := hL.go hb; clear hb
  go_wp2_with fail
  refine (few_t 30 hL.below ha1 (by decide) (by decide)).mono ?_
  rintro e w1 ⟨a, X, rfl, hv, hb⟩
  have hX : X < 18446744073709551616 ^ 30 := IsN.lt hv
  obtain ⟨A, c, zs, rfl, hr, hc, hl, hd, hvl⟩ := id hv
  replace hL := ((hL.go hb).put (pR_st A zs) hr).put (pN_st _ _ _) hv
  clear hb hv hr
  go_wp2_with fail; refine (halves_any _ (hL.get (P := pN (.slice A zs.length c) 30 X) (by repeat (first | exact List.mem_cons_self | apply List.mem_cons_of_mem))) (by decide)).mono ?_; rintro e w1 ⟨x, rfl, hv, hb, -⟩; replace hL := (hL.go hb).put (pH_st _ _ _) hv; clear hb hv
  obtain ⟨yA, yc, yn, rfl, hy0, hym⟩ := IsH.shape (hL.get (P := pH x (2 * 30) X) (by repeat (first | exact List.mem_cons_self | apply List.mem_cons_of_mem)))
  obtain ⟨o, ho⟩ : ∃ o, decide (X < 18446744073709551616) = o := ⟨_, rfl⟩
  have ho2 : decide ((yn : Int) < 3) = o := by
    rw [← ho]
    have h2 := hym 2
    by_cases h : X < 18446744073709551616
    · have : yn ≤ 2 := h2.2 h
      rw [decide_eq_true h]; simp; omega
    · have : ¬ yn ≤ 2 := fun e => h (h2.1 e)
      rw [decide_eq_false h]; simp; omega
  have hup := shift_fits (b := 18446744073709551616) (k := 30) (e := 64) (n := n0) (j := 33) rfl hX (by omega)
  have hup2 := shift_fits (b := 4294967296) (k := 60) (e := 32) (n := n0) (j := 66) rfl (IsH.lt (hL.get (P := pH (.slice yA yn yc) (2 * 30) X) (by repeat (first | exact List.mem_cons_self | apply List.mem_cons_of_mem)))) (by omega)
  obtain ⟨bb, hbA, hbH⟩ : ∃ bb, (∀ w, IsN w (.slice A zs.length c) 30 X → Calls Tryz.prog 28 #[.slice A zs.length c, .int .i64 m] w fun e w' => e = .returned (.bool bb) ∧ w = w') ∧
      (∀ w, IsH w (.slice yA yn yc) (2 * 30) X → Calls Tryz.prog 29 #[.slice yA yn yc, .int .i64 m] w fun e w' => e = .returned (.bool bb) ∧ w = w') := by
    by_cases hm0 : m < 0
    · exact ⟨false, fun w h => bit_neg A _ c m w hm0, fun w h => rbit_neg _ m w hm0⟩
    · obtain rfl : m = (n0 : Int) := by omega
      exact ⟨X.testBit n0, fun w h => bit_t n0 (by omega) h, fun w h => rbit_any n0 (by omega) w h⟩
  have hev : ∀ b0 : Bool, ((!b0) == b0) = false := fun b0 => by cases b0 <;> rfl
  have hwd := word_any c w1 (hL.get (P := pR A zs) (by repeat (first | exact List.mem_cons_self | apply List.mem_cons_of_mem))) hc (by omega) hd
  obtain ⟨lo, hlo⟩ : ∃ k, zs.getD 0 0 = k := ⟨_, rfl⟩
  rw [hvl, ho, hlo] at hwd
  replace hup := Lib.hid hup
  replace hup2 := Lib.hid hup2
  replace hbA := Lib.hid hbA
  replace hbH := Lib.hid hbH
  replace hX := Lib.hid hX
  replace ho := Lib.hid ho
  replace hvl := Lib.hid hvl
  clear hy0 hym
  go_wp2_with fail; refine (hwd).mono ?_; rintro e w' ⟨rfl, rfl⟩
  go_wp2_with fail; refine (shl_t m 63 (X * 2 ^ n0) (hL.get (P := pN (.slice A zs.length c) 30 X) (by repeat (first | exact List.mem_cons_self | apply List.mem_cons_of_mem))) (by decide) (by rw [hmin.out]) hup.out).mono ?_; rintro e w1 ⟨p, rfl, hv, hb⟩; replace hL := (hL.go hb).put (pT_st _ _ _) hv; clear hb hv
  go_wp2_with fail; refine (up_any n0 126 _ (hL.get (P := pH (.slice yA yn yc) (2 * 30) X) (by repeat (first | exact List.mem_cons_self | apply List.mem_cons_of_mem))) (by decide) (by omega) hup2.out).mono ?_; rintro e w1 ⟨p2, rfl, hv, hb, -⟩; replace hL := (hL.go hb).put (pH_st _ _ _) hv; clear hb hv
  go_wp2_with fail; refine (same_t _ (k1 := 63) (k2 := 126) (N := X * 2 ^ n0) (hL.get (P := pT p 63 (X * 2 ^ n0)) (by repeat (first | exact List.mem_cons_self | apply List.mem_cons_of_mem))) (hL.get (P := pH p2 126 (X * 2 ^ n0)) (by repeat (first | exact List.mem_cons_self | apply List.mem_cons_of_mem))) (by decide) (by decide)).mono ?_; rintro e w1 ⟨rfl, hb⟩; replace hL := hL.go hb; clear hb
  go_wp2_with fail; refine (shr_t m (X / 2 ^ n0) (hL.get (P := pN (.slice A zs.length c) 30 X) (by repeat (first | exact List.mem_cons_self | apply List.mem_cons_of_mem))) (by decide) (by rw [hmin.out])).mono ?_; rintro e w1 ⟨d, rfl, hv, hb⟩; replace hL := (hL.go hb).put (pT_st _ _ _) hv; clear hb hv
  go_wp2_with fail; refine (down_any n0 _ (hL.get (P := pH (.slice yA yn yc) (2 * 30) X) (by repeat (first | exact List.mem_cons_self | apply List.mem_cons_of_mem))) (by decide) (by omega)).mono ?_; rintro e w1 ⟨d2, rfl, hv, hb, -⟩; replace hL := (hL.go hb).put (pH_st _ _ _) hv; clear hb hv
  go_wp2_with fail; refine (same_t _ (k1 := 30) (k2 := (2 * 30)) (N := X / 2 ^ n0) (hL.get (P := pT d 30 (X / 2 ^ n0)) (by repeat (first | exact List.mem_cons_self | apply List.mem_cons_of_mem))) (hL.get (P := pH d2 (2 * 30) (X / 2 ^ n0)) (by repeat (first | exact List.mem_cons_self | apply List.mem_cons_of_mem))) (by decide) (by decide)).mono ?_; rintro e w1 ⟨rfl, hb⟩; replace hL := hL.go hb; clear hb
  go_wp2_with fail; refine (bits_t (hL.get (P := pN (.slice A zs.length c) 30 X) (by repeat (first | exact List.mem_cons_self | apply List.mem_cons_of_mem))) (by decide)).mono ?_; rintro e w' ⟨rfl, rfl⟩
  go_wp2_with fail; refine (rbits_any _ (hL.get (P := pH (.slice yA yn yc) (2 * 30) X) (by repeat (first | exact List.mem_cons_self | apply List.mem_cons_of_mem))) (by decide)).mono ?_; rintro e w' ⟨rfl, rfl⟩
  go_wp2_with fail; refine (hbA.out _ (hL.get (P := pN (.slice A zs.length c) 30 X) (by repeat (first | exact List.mem_cons_self | apply List.mem_cons_of_mem)))).mono ?_; rintro e w' ⟨rfl, rfl⟩
  go_wp2_with fail; refine (hbH.out _ (hL.get (P := pH (.slice yA yn yc) (2 * 30) X) (by repeat (first | exact List.mem_cons_self | apply List.mem_cons_of_mem)))).mono ?_; rintro e w' ⟨rfl, rfl⟩
  have he := even_t (hL.get (P := pN (.slice A zs.length c) 30 X) (by repeat (first | exact List.mem_cons_self | apply List.mem_cons_of_mem)))
  have hr0 := fun w h => rbit_any 0 (by omega) w (v1 := .slice yA yn yc) (k1 := 2 * 30) (X := X) h
  obtain ⟨b0, hb0⟩ : ∃ b, X.testBit 0 = b := ⟨_, rfl⟩
  rw [hb0] at he hr0
  have hev0 := hev b0
  replace he := Lib.hid he
  replace hr0 := Lib.hid hr0
  replace hb0 := Lib.hid hb0
  clear hev
  by_cases hz0 : zs.length = 0
  · obtain rfl := List.eq_nil_of_length_eq_zero hz0
    obtain rfl : lo = 0 := by rw [← hlo]; rfl
    · go_wp2_with fail; refine (he.out).mono ?_; rintro e w' ⟨rfl, rfl⟩
      go_wp2_with fail; refine (hr0.out _ (hL.get (P := pH (.slice yA yn yc) (2 * 30) X) (by repeat (first | exact List.mem_cons_self | apply List.mem_cons_of_mem)))).mono ?_; rintro e w' ⟨rfl, rfl⟩
      go_wp2_with fail; refine (norm_t (hL.get (P := pN (.slice A ([] : List Nat).length c) 30 X) (by repeat (first | exact List.mem_cons_self | apply List.mem_cons_of_mem))) (by decide)).mono ?_; rintro e w1 ⟨nn, rfl, hv, hb⟩; replace hL := (hL.go hb).put (pT_st _ _ _) hv; clear hb hv
      go_wp2_with fail; refine (same_t _ (k1 := 30) (k2 := (2 * 30)) (N := X) (hL.get (P := pT nn 30 (X)) (by repeat (first | exact List.mem_cons_self | apply List.mem_cons_of_mem))) (hL.get (P := pH (.slice yA yn yc) (2 * 30) (X)) (by repeat (first | exact List.mem_cons_self | apply List.mem_cons_of_mem))) (by decide) (by decide)).mono ?_; rintro e w1 ⟨rfl, hb⟩; replace hL := hL.go hb; clear hb
      go_wp2_with fail; refine (of_t _ z hz.out).mono ?_; rintro e w1 ⟨ov, rfl, hv, hb⟩; replace hL := (hL.go hb).put (pT_st _ _ _) hv; clear hb hv
      have hlit := isN_lit w1 [z] #[.int .u64 (z : Int)] 1 z rfl (fun x hx => by simp at hx; have := hz.out; omega) rfl (by simp [vl])
      replace hL := hL.go ((Below.refl _ _).alloc (Nat.le_refl _) (.cells #[.int .u64 (z : Int)] 39))
      go_wp2_with fail; refine (halves_any _ hlit (by decide)).mono ?_; rintro e w1 ⟨oh, rfl, hv, hb, -⟩; replace hL := (hL.go hb).put (pH_st _ _ _) hv; clear hb hv
      go_wp2_with fail; refine (same_t _ (k1 := 1) (k2 := (2 * 1)) (N := z) (hL.get (P := pT ov 1 (z)) (by repeat (first | exact List.mem_cons_self | apply List.mem_cons_of_mem))) (hL.get (P := pH oh (2 * 1) (z)) (by repeat (first | exact List.mem_cons_self | apply List.mem_cons_of_mem))) (by decide) (by decide)).mono ?_; rintro e w1 ⟨rfl, hb⟩; replace hL := hL.go hb; clear hb
      go_wp2
      go_ret
      exact ⟨rfl, hL.below⟩
  · obtain ⟨b, off, rfl, hbw, hcx⟩ := RdU.at (hL.get (P := pR A zs) (by repeat (first | exact List.mem_cons_self | apply List.mem_cons_of_mem))) (i := 0) (by omega)
    have hc0 := hcx 0 (by omega)
    have hzp : 0 < zs.length := by omega
    clear hcx
    rw [hlo, Nat.add_zero] at hc0
    replace hlo := Lib.hid hlo
    · go_wp2_with fail; refine (he.out).mono ?_; rintro e w' ⟨rfl, rfl⟩
      go_wp2_with fail; refine (hr0.out _ (hL.get (P := pH (.slice yA yn yc) (2 * 30) X) (by repeat (first | exact List.mem_cons_self | apply List.mem_cons_of_mem)))).mono ?_; rintro e w' ⟨rfl, rfl⟩
      go_wp2_with fail; refine (norm_t (hL.get (P := pN (.slice (some ⟨b, off, none⟩) zs.length c) 30 X) (by repeat (first | exact List.mem_cons_self | apply List.mem_cons_of_mem))) (by decide)).mono ?_; rintro e w1 ⟨nn, rfl, hv, hb⟩; replace hL := (hL.go hb).put (pT_st _ _ _) hv; clear hb hv
      go_wp2_with fail; refine (same_t _ (k1 := 30) (k2 := (2 * 30)) (N := X) (hL.get (P := pT nn 30 (X)) (by repeat (first | exact List.mem_cons_self | apply List.mem_cons_of_mem))) (hL.get (P := pH (.slice yA yn yc) (2 * 30) (X)) (by repeat (first | exact List.mem_cons_self | apply List.mem_cons_of_mem))) (by decide) (by decide)).mono ?_; rintro e w1 ⟨rfl, hb⟩; replace hL := hL.go hb; clear hb
      go_wp2_with fail; refine (of_t _ z hz.out).mono ?_; rintro e w1 ⟨ov, rfl, hv, hb⟩; replace hL := (hL.go hb).put (pT_st _ _ _) hv; clear hb hv
      have hlit := isN_lit w1 [z] #[.int .u64 (z : Int)] 1 z rfl (fun x hx => by simp at hx; have := hz.out; omega) rfl (by simp [vl])
      replace hL := hL.go ((Below.refl _ _).alloc (Nat.le_refl _) (.cells #[.int .u64 (z : Int)] 39))
      go_wp2_with fail; refine (halves_any _ hlit (by decide)).mono ?_; rintro e w1 ⟨oh, rfl, hv, hb, -⟩; replace hL := (hL.go hb).put (pH_st _ _ _) hv; clear hb hv
      go_wp2_with fail; refine (same_t _ (k1 := 1) (k2 := (2 * 1)) (N := z) (hL.get (P := pT ov 1 (z)) (by repeat (first | exact List.mem_cons_self | apply List.mem_cons_of_mem))) (hL.get (P := pH oh (2 * 1) (z)) (by repeat (first | exact List.mem_cons_self | apply List.mem_cons_of_mem))) (by decide) (by decide)).mono ?_; rintro e w1 ⟨rfl, hb⟩; replace hL := hL.go hb; clear hb
      go_wp2
      go_ret
      exact ⟨rfl, hL.below⟩
end Go.Proofs.YtniffclplmgcfaaGreatDoor
