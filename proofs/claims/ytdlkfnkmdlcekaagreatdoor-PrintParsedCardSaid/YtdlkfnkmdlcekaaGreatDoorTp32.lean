/- The law PrintApart, walked. Conditions: the variables that values and words read. -/
/- The law PrintApart, whole. Conditions: the variables that values and words read. -/
/- Plain: what is printed is parsed as the pattern that stands for it. Conditions: none. -/
/- Parse: what number a text tells, walked. Conditions: none. -/
/- Parse: what is thrown is caught. Conditions: none. -/
import Derived.Test.YtdlkfnkmdlcekaaGreatDoorTp31
import Derived.Test.YtdlkfnkmdlcekaaGreatDoorTp28
import Derived.Test.YtdlkfnkmdlcekaaGreatDoorTp30
import Derived.Defers
import Derived.Recover
import Derived.Tactics2
namespace Go.Proofs.YtdlkfnkmdlcekaaGreatDoor
open Go.RowKit Go.Cal
theorem full_lit {id p : Int} (hp0 : 0 ≤ p) (hp1 : p < 18446744073709551616) (w : World) (hW : PrW w) :
    Calls Tryz.prog 16 #[.int .i64 id, .int .u64 p] w fun e w' => e = .returned (.tuple #[.string (strL (fulT id p)), .int .i64 (fitsV id p)]) ∧ Below w.heap.size w w' := pfull_any id p hp0 hp1 w hW
set_option maxRecDepth 100000 in
set_option maxHeartbeats 4000000 in
theorem printApart_unlike (id p q : Int) (cp cq ep eq : Int) (np nq : Bool) (mp mq : Nat) (fp fq : Int) (A B X Y : ByteArray)
    (hsh : Hid (∀ w, PrW w → Calls Tryz.prog 13 #[] w fun e w' => e = .returned (.bool true) ∧ Below w.heap.size w w'))
    (hdp : Hid (∀ w, PrW w → Calls Tryz.prog 14 #[.int .i64 id, .int .u64 p] w fun e w' => e = .returned (.tuple #[.agg #[.int .i64 cp, .bool np, .int .u64 mp, .int .i64 ep], .int .i64 0]) ∧ Below w.heap.size w w'))
    (hdq : Hid (∀ w, PrW w → Calls Tryz.prog 14 #[.int .i64 id, .int .u64 q] w fun e w' => e = .returned (.tuple #[.agg #[.int .i64 cq, .bool nq, .int .u64 mq, .int .i64 eq], .int .i64 0]) ∧ Below w.heap.size w w'))
    (hop : Hid (∀ w, PrW w → Calls Tryz.prog 15 #[.int .i64 id, .int .u64 p] w fun e w' => e = .returned (.string A) ∧ Below w.heap.size w w'))
    (hoq : Hid (∀ w, PrW w → Calls Tryz.prog 15 #[.int .i64 id, .int .u64 q] w fun e w' => e = .returned (.string B) ∧ Below w.heap.size w w'))
    (hfp : Hid (∀ w, PrW w → Calls Tryz.prog 16 #[.int .i64 id, .int .u64 p] w fun e w' => e = .returned (.tuple #[.string X, .int .i64 fp]) ∧ Below w.heap.size w w'))
    (hfq : Hid (∀ w, PrW w → Calls Tryz.prog 16 #[.int .i64 id, .int .u64 q] w fun e w' => e = .returned (.tuple #[.string Y, .int .i64 fq]) ∧ Below w.heap.size w w'))
    (hAB : (A.toList == B.toList) = false) (hXY : (X.toList == Y.toList) = false) (hne : ¬ (cp = cq ∧ np = nq ∧ mp = mq ∧ ep = eq)) (w : World) (hW : PrW w) :
    Calls Tryz.prog 3 #[.int .i64 id, .int .u64 p, .int .u64 q] w fun e w' => e = .returned (.bool true) ∧ Below w.heap.size w w' := by
  have hL0 : LiveP w w [] := LiveP.start w
  go_enter Tryz.func3, Tryz.ntmps3
  go_wp2_with fail
  refine (hsh.out _ hW).mono ?_
  rintro e w1 ⟨rfl, hb⟩
  have hL1 := hL0.go hb
  clear hb
  go_wp2_with fail
  refine (hdp.out _ (hW.below hL1.below)).mono ?_
  rintro e w2 ⟨rfl, hb⟩
  have hL2 := ((hL1.go hb).go ((Below.refl _ _).alloc (Nat.le_refl _) (.cells #[.int .i64 cp, .bool np, .int .u64 mp, .int .i64 ep] 25))).put (pBlk_st _ _ _) (pBlk_made w2 #[.int .i64 cp, .bool np, .int .u64 mp, .int .i64 ep] 25)
  clear hb
  go_wp2_with fail
  refine (hdq.out _ (hW.below hL2.below)).mono ?_
  rintro e w3 ⟨rfl, hb⟩
  have hL3 := ((hL2.go hb).go ((Below.refl _ _).alloc (Nat.le_refl _) (.cells #[.int .i64 cq, .bool nq, .int .u64 mq, .int .i64 eq] 25))).put (pBlk_st _ _ _) (pBlk_made w3 #[.int .i64 cq, .bool nq, .int .u64 mq, .int .i64 eq] 25)
  clear hb
  go_wp2_with fail
  refine (hop.out _ (hW.below hL3.below)).mono ?_
  rintro e w4 ⟨rfl, hb⟩
  have hL4 := hL3.go hb
  clear hb
  go_wp2_with fail
  refine (hoq.out _ (hW.below hL4.below)).mono ?_
  rintro e w5 ⟨rfl, hb⟩
  have hL5 := hL4.go hb
  clear hb
  go_wp2_with fail
  refine (hfp.out _ (hW.below hL5.below)).mono ?_
  rintro e w6 ⟨rfl, hb⟩
  have hL6 := hL5.go hb
  clear hb
  go_wp2_with fail
  refine (hfq.out _ (hW.below hL6.below)).mono ?_
  rintro e w7 ⟨rfl, hb⟩
  have hL7 := hL6.go hb
  clear hb
  obtain ⟨p0, p1, p2, p3⟩ := cells4 (hL7.get (P := pBlk w2.heap.size #[.int .i64 cp, .bool np, .int .u64 mp, .int .i64 ep] 25) (by repeat (first | exact List.mem_cons_self | apply List.mem_cons_of_mem)))
  obtain ⟨q0, q1, q2, q3⟩ := cells4 (hL7.get (P := pBlk w3.heap.size #[.int .i64 cq, .bool nq, .int .u64 mq, .int .i64 eq] 25) (by repeat (first | exact List.mem_cons_self | apply List.mem_cons_of_mem)))
  go_wp2_with fail
  all_goals first
    | (exfalso; exact hne ⟨by assumption, by assumption, by omega, by assumption⟩)
    | (go_ret; exact ⟨rfl, hL7.below⟩)
set_option maxRecDepth 100000 in
set_option maxHeartbeats 4000000 in
theorem printApart_like (id p q : Int) (cp ep : Int) (np : Bool) (mp : Nat) (fp fq : Int) (A X : ByteArray)
    (hsh : Hid (∀ w, PrW w → Calls Tryz.prog 13 #[] w fun e w' => e = .returned (.bool true) ∧ Below w.heap.size w w'))
    (hdp : Hid (∀ w, PrW w → Calls Tryz.prog 14 #[.int .i64 id, .int .u64 p] w fun e w' => e = .returned (.tuple #[.agg #[.int .i64 cp, .bool np, .int .u64 mp, .int .i64 ep], .int .i64 0]) ∧ Below w.heap.size w w'))
    (hdq : Hid (∀ w, PrW w → Calls Tryz.prog 14 #[.int .i64 id, .int .u64 q] w fun e w' => e = .returned (.tuple #[.agg #[.int .i64 cp, .bool np, .int .u64 mp, .int .i64 ep], .int .i64 0]) ∧ Below w.heap.size w w'))
    (hop : Hid (∀ w, PrW w → Calls Tryz.prog 15 #[.int .i64 id, .int .u64 p] w fun e w' => e = .returned (.string A) ∧ Below w.heap.size w w'))
    (hoq : Hid (∀ w, PrW w → Calls Tryz.prog 15 #[.int .i64 id, .int .u64 q] w fun e w' => e = .returned (.string A) ∧ Below w.heap.size w w'))
    (hfp : Hid (∀ w, PrW w → Calls Tryz.prog 16 #[.int .i64 id, .int .u64 p] w fun e w' => e = .returned (.tuple #[.string X, .int .i64 fp]) ∧ Below w.heap.size w w'))
    (hfq : Hid (∀ w, PrW w → Calls Tryz.prog 16 #[.int .i64 id, .int .u64 q] w fun e w' => e = .returned (.tuple #[.string X, .int .i64 fq]) ∧ Below w.heap.size w w'))
    (w : World) (hW : PrW w) :
    Calls Tryz.prog 3 #[.int .i64 id, .int .u64 p, .int .u64 q] w fun e w' => e = .returned (.bool true) ∧ Below w.heap.size w w' := by
  have hL0 : LiveP w w [] := LiveP.start w
  go_enter Tryz.func3, Tryz.ntmps3
  go_wp2_with fail
  refine (hsh.out _ hW).mono ?_
  rintro e w1 ⟨rfl, hb⟩
  have hL1 := hL0.go hb
  clear hb
  go_wp2_with fail
  refine (hdp.out _ (hW.below hL1.below)).mono ?_
  rintro e w2 ⟨rfl, hb⟩
  have hL2 := ((hL1.go hb).go ((Below.refl _ _).alloc (Nat.le_refl _) (.cells #[.int .i64 cp, .bool np, .int .u64 mp, .int .i64 ep] 25))).put (pBlk_st _ _ _) (pBlk_made w2 #[.int .i64 cp, .bool np, .int .u64 mp, .int .i64 ep] 25)
  clear hb
  go_wp2_with fail
  refine (hdq.out _ (hW.below hL2.below)).mono ?_
  rintro e w3 ⟨rfl, hb⟩
  have hL3 := ((hL2.go hb).go ((Below.refl _ _).alloc (Nat.le_refl _) (.cells #[.int .i64 cp, .bool np, .int .u64 mp, .int .i64 ep] 25))).put (pBlk_st _ _ _) (pBlk_made w3 #[.int .i64 cp, .bool np, .int .u64 mp, .int .i64 ep] 25)
  clear hb
  go_wp2_with fail
  refine (hop.out _ (hW.below hL3.below)).mono ?_
  rintro e w4 ⟨rfl, hb⟩
  have hL4 := hL3.go hb
  clear hb
  go_wp2_with fail
  refine (hoq.out _ (hW.below hL4.below)).mono ?_
  rintro e w5 ⟨rfl, hb⟩
  have hL5 := hL4.go hb
  clear hb
  go_wp2_with fail
  refine (hfp.out _ (hW.below hL5.below)).mono ?_
  rintro e w6 ⟨rfl, hb⟩
  have hL6 := hL5.go hb
  clear hb
  go_wp2_with fail
  refine (hfq.out _ (hW.below hL6.below)).mono ?_
  rintro e w7 ⟨rfl, hb⟩
  have hL7 := hL6.go hb
  clear hb
  obtain ⟨p0, p1, p2, p3⟩ := cells4 (hL7.get (P := pBlk w2.heap.size #[.int .i64 cp, .bool np, .int .u64 mp, .int .i64 ep] 25) (by repeat (first | exact List.mem_cons_self | apply List.mem_cons_of_mem)))
  obtain ⟨q0, q1, q2, q3⟩ := cells4 (hL7.get (P := pBlk w3.heap.size #[.int .i64 cp, .bool np, .int .u64 mp, .int .i64 ep] 25) (by repeat (first | exact List.mem_cons_self | apply List.mem_cons_of_mem)))
  go_wp2_with fail
  go_ret
  exact ⟨by simp, hL7.below⟩
set_option maxRecDepth 100000 in
set_option maxHeartbeats 4000000 in
theorem printApart_no (id p q : Int) (cp cq ep eq E1 E2 : Int) (np nq : Bool) (mp mq : Nat) (hE : (E1 != 0) = true ∨ ((E1 != 0) = false ∧ (E2 != 0) = true))
    (hsh : Hid (∀ w, PrW w → Calls Tryz.prog 13 #[] w fun e w' => e = .returned (.bool true) ∧ Below w.heap.size w w'))
    (hdp : Hid (∀ w, PrW w → Calls Tryz.prog 14 #[.int .i64 id, .int .u64 p] w fun e w' => e = .returned (.tuple #[.agg #[.int .i64 cp, .bool np, .int .u64 mp, .int .i64 ep], .int .i64 E1]) ∧ Below w.heap.size w w'))
    (hdq : Hid (∀ w, PrW w → Calls Tryz.prog 14 #[.int .i64 id, .int .u64 q] w fun e w' => e = .returned (.tuple #[.agg #[.int .i64 cq, .bool nq, .int .u64 mq, .int .i64 eq], .int .i64 E2]) ∧ Below w.heap.size w w'))
    (w : World) (hW : PrW w) :
    Calls Tryz.prog 3 #[.int .i64 id, .int .u64 p, .int .u64 q] w fun e w' => e = .returned (.bool true) ∧ Below w.heap.size w w' := by
  have hL0 : LiveP w w [] := LiveP.start w
  rcases hE with hE | ⟨hE, hE2⟩
  all_goals
                go_enter Tryz.func3, Tryz.ntmps3
                go_wp2_with fail
                refine (hsh.out _ hW).mono ?_
                rintro e w1 ⟨rfl, hb⟩
                have hL1 := hL0.go hb
                clear hb
                go_wp2_with fail
                refine (hdp.out _ (hW.below hL1.below)).mono ?_
                rintro e w2 ⟨rfl, hb⟩
                have hL2 := (hL1.go hb).go ((Below.refl _ _).alloc (Nat.le_refl _) (.cells #[.int .i64 cp, .bool np, .int .u64 mp, .int .i64 ep] 25))
                clear hb
                go_wp2_with fail
                refine (hdq.out _ (hW.below hL2.below)).mono ?_
                rintro e w3 ⟨rfl, hb⟩
                have hL3 := (hL2.go hb).go ((Below.refl _ _).alloc (Nat.le_refl _) (.cells #[.int .i64 cq, .bool nq, .int .u64 mq, .int .i64 eq] 25))
                clear hb
                go_wp2
                go_ret
                exact ⟨rfl, hL3.below⟩
end Go.Proofs.YtdlkfnkmdlcekaaGreatDoor
namespace Go.Proofs.YtdlkfnkmdlcekaaGreatDoor
open Go.RowKit Go.Cal
theorem str_ne {A B : List UInt8} (h : A ≠ B) : ((strL A).toList == (strL B).toList) = false := by
  have e : ∀ l, (strL l).toList = l := fun l => by unfold strL; rw [ByteArray.toList_mk]
  rw [e, e]
  simpa using h
theorem dec_some (id p : Int) (hp0 : 0 ≤ p) (hp1 : p < 18446744073709551616) : ∃ (c : Int) (n : Bool) (m : Nat) (x : Int), Hid (∀ w, PrW w → Calls Tryz.prog 14 #[.int .i64 id, .int .u64 p] w fun e w' => e = .returned (.tuple #[.agg #[.int .i64 c, .bool n, .int .u64 m, .int .i64 x], .int .i64 (fitsV id p)]) ∧ Below w.heap.size w w') := by
  by_cases hf : fitsV id p = 0
  · obtain ⟨h1, h2, h3⟩ := fits_two hf
    rw [hf]
    exact ⟨_, _, _, _, Lib.hid fun w hW => vdec_yes id p h1 h2 hp0 h3 w hW.va⟩
  · exact ⟨0, false, 0, 0, Lib.hid fun w hW => vdec_no id p hp0 hp1 hf w hW.va⟩
theorem printApart_any (id p q : Int) (hp0 : 0 ≤ p) (hp1 : p < 18446744073709551616) (hq0 : 0 ≤ q) (hq1 : q < 18446744073709551616) (w : World) (hW : PrW w) :
    Calls Tryz.prog 3 #[.int .i64 id, .int .u64 p, .int .u64 q] w fun e w' => e = .returned (.bool true) ∧ Below w.heap.size w w' := by
  have hsh := Lib.hid fun w (hW : PrW w) => rshown_any w hW
  by_cases fp : fitsV id p = 0
  · by_cases fq : fitsV id q = 0
    · obtain ⟨h1, h2, p2⟩ := fits_two fp
      obtain ⟨-, -, q2⟩ := fits_two fq
      have hdp := Lib.hid fun w (hW : PrW w) => vdec_yes id p h1 h2 hp0 p2 w hW.va
      have hdq := Lib.hid fun w (hW : PrW w) => vdec_yes id q h1 h2 hq0 q2 w hW.va
      have hop := Lib.hid fun w (hW : PrW w) => pof_any id p hp0 hp1 w hW
      have hoq := Lib.hid fun w (hW : PrW w) => pof_any id q hq0 hq1 w hW
      have hfp := Lib.hid fun w (hW : PrW w) => full_lit (id := id) hp0 hp1 w hW
      have hfq := Lib.hid fun w (hW : PrW w) => full_lit (id := id) hq0 hq1 w hW
      obtain ⟨ha, hb⟩ := texts_apart hp0 hq0 fp fq
      by_cases hv : classV id p = classV id q ∧ decN id p = decN id q ∧ decM id p = decM id q ∧ decE id p = decE id q
      · have ea := ha.2 hv
        have eb := hb.2 hv
        obtain ⟨v1, v2, v3, v4⟩ := hv
        rw [ea] at hop
        rw [eb] at hfp
        rw [v1, v2, v3, v4] at hdp
        exact printApart_like id p q _ _ _ _ _ _ _ _ hsh hdp hdq hop hoq hfp hfq w hW
      · exact printApart_unlike id p q _ _ _ _ _ _ _ _ _ _ _ _ _ _ hsh hdp hdq hop hoq hfp hfq (str_ne fun h => hv (ha.1 h)) (str_ne fun h => hv (hb.1 h)) hv w hW
    · obtain ⟨c1, n1, m1, x1, d1⟩ := dec_some id p hp0 hp1
      obtain ⟨c2, n2, m2, x2, d2⟩ := dec_some id q hq0 hq1
      exact printApart_no id p q c1 c2 x1 x2 _ _ n1 n2 m1 m2 (.inr ⟨by simp [fp], by simp [fq]⟩) hsh d1 d2 w hW
  · obtain ⟨c1, n1, m1, x1, d1⟩ := dec_some id p hp0 hp1
    obtain ⟨c2, n2, m2, x2, d2⟩ := dec_some id q hq0 hq1
    exact printApart_no id p q c1 c2 x1 x2 _ _ n1 n2 m1 m2 (.inl (by simp [fp])) hsh d1 d2 w hW
end Go.Proofs.YtdlkfnkmdlcekaaGreatDoor
namespace Go.Proofs.YtdlkfnkmdlcekaaGreatDoor
open Go.RowKit Go.Cal
theorem uN_topT {id : Int} (h1 : 1 ≤ id) (h2 : id < 15) : uN (fK id).toNat (fW id).toNat (fM id).toNat (fB id).toNat (2 * (fitM id).toNat) < 2 ^ 3100 := by
  rcases id_cases h1 h2 with rfl | rfl | rfl | rfl | rfl | rfl | rfl | rfl | rfl | rfl | rfl | rfl | rfl | rfl <;> decide +kernel
/-- Powers of two of magnitudes are not far from 0. -/
theorem mag_near {id : Int} {key : Nat} (h1 : 1 ≤ id) (h2 : id < 15) (hk : (key : Int) ≤ fitM id) (h0 : fK id ≠ 4 → 0 < key) : -1100 ≤ (magV id 0 key).2 ∧ (magV id 0 key).2 ≤ 1100 := by
  obtain ⟨a1, a2, a3, a4, a5, a6⟩ := mag_range0 h1 h2 hk h0
  constructor
  · obtain ⟨w1, w2, w3, w4, -⟩ := fo_wide h1 h2
    have hKn := fK_nat id
    obtain ⟨k0, kw, k1, k2, k4⟩ := mag_own h1 h2 hk (fun h => h0 (by omega))
    have hq : -1100 ≤ (numQ (fK id).toNat (fW id).toNat (fM id).toNat (fB id).toNat 0 key).2 := by
      unfold numQ
      by_cases c1 : (fK id).toNat = 1
      · rw [if_pos c1]
        have w5 := (k1 (by omega)).2
        have hl := poL_le w5
        have hr := poR_ge w5
        simp only [Nat.add_zero] at hl hr ⊢
        omega
      · rw [if_neg c1]
        by_cases c2 : (fK id).toNat = 2
        · rw [if_pos c2]; simp only; omega
        · rw [if_neg c2]
          by_cases c3 : (fK id).toNat = 3
          · rw [if_pos c3]; simp only; omega
          · rw [if_neg c3]; simp only; omega
    have hm : (magV id 0 key).2 = (oddP 64 (numQ (fK id).toNat (fW id).toNat (fM id).toNat (fB id).toNat 0 key).1 (numQ (fK id).toNat (fW id).toNat (fM id).toNat (fB id).toNat 0 key).2).2 := rfl
    have ho : (numQ (fK id).toNat (fW id).toNat (fM id).toNat (fB id).toNat 0 key).1 ≠ 0 := by
      intro h
      have hm1 : (magV id 0 key).1 = (oddP 64 (numQ (fK id).toNat (fW id).toNat (fM id).toNat (fB id).toNat 0 key).1 (numQ (fK id).toNat (fW id).toNat (fM id).toNat (fB id).toNat 0 key).2).1 := rfl
      rw [hm1, h] at a1
      exact absurd a1 (by simp [oddP])
    rw [hm]
    unfold oddP
    rw [if_neg ho]
    simp only
    omega
  · have hlt : 2 ^ ((2000 : Int) + (magV id 0 key).2).toNat < 2 ^ 3100 := by
      refine Nat.lt_of_le_of_lt ?_ (uN_topT h1 h2)
      refine Nat.le_trans ?_ (uN_le h1 h2 (i := 2 * key) (by omega) (by omega))
      rw [← a6]
      exact Nat.le_mul_of_pos_left _ a1
    have := (Nat.pow_lt_pow_iff_right (a := 2) (by decide)).1 hlt
    omega
/-- How many digits a number near 1 has. -/
theorem has_near {m : Nat} {e : Int} (h0 : 0 < m) (hm : m < 18446744073709551616) (he : -1100 ≤ e ∧ e ≤ 1100) :
    (0 ≤ e → (Lib.decDigits (hasM m e)).length ≤ 390) ∧ (e < 0 → (Lib.decDigits (hasM m e)).length ≤ 800 ∧ 0 ≤ ((Lib.decDigits (hasM m e)).length : Int) + e + 400 ∧ ((Lib.decDigits (hasM m e)).length : Int) + e ≤ 400) := by
  have h20 : (18446744073709551616 : Nat) ≤ 10 ^ 20 := by decide
  unfold hasM
  constructor
  · intro h
    rw [if_pos h]
    have hp : 2 ^ e.toNat ≤ 10 ^ ((e.toNat + 2) / 3) := by
      have h8 : (2 : Nat) ^ 3 ≤ 10 := by decide
      calc 2 ^ e.toNat ≤ 2 ^ (3 * ((e.toNat + 2) / 3)) := Nat.pow_le_pow_right (by decide) (by omega)
        _ = (2 ^ 3) ^ ((e.toNat + 2) / 3) := Nat.pow_mul 2 3 _
        _ ≤ 10 ^ ((e.toNat + 2) / 3) := Nat.pow_le_pow_left h8 _
    have hlt : m * 2 ^ e.toNat < 10 ^ (20 + (e.toNat + 2) / 3) := by
      rw [Nat.pow_add]
      exact Nat.lt_of_lt_of_le (Nat.mul_lt_mul_of_pos_right hm (Nat.two_pow_pos _)) (Nat.mul_le_mul h20 hp)
    have := dec_lenH (by omega) hlt
    omega
  · intro h
    rw [if_neg (by omega)]
    obtain ⟨a, ha⟩ : ∃ a, (-e).toNat = a := ⟨_, rfl⟩
    rw [ha]
    have hea : e = -(a : Int) := by omega
    have hp := five_high5 a
    have hq := five_low3 a
    have h5 : 0 < 5 ^ a := Nat.pow_pos (by decide)
    have hlt : m * 5 ^ a < 10 ^ (20 + (a * 7 + 9) / 10) := by
      rw [Nat.pow_add]
      exact Nat.lt_of_lt_of_le (Nat.mul_lt_mul_of_pos_right hm h5) (Nat.mul_le_mul h20 hp)
    have hl := dec_lenH (by omega) hlt
    have hge : 10 ^ (a * 2 / 3) ≤ m * 5 ^ a := Nat.le_trans hq (Nat.le_mul_of_pos_left _ h0)
    have := dec_lowH hge
    clear hlt hge hp hq h5
    omega
/-- Noughts at the end, left away. -/
theorem tens_len {M z : Nat} (h0 : 0 < M) (h : M / 10 ^ z * 10 ^ z = M) : (Lib.decDigits (M / 10 ^ z)).length + z = (Lib.decDigits M).length := by
  have hd : 0 < M / 10 ^ z := by
    rcases Nat.eq_zero_or_pos (M / 10 ^ z) with h1 | h1
    · rw [h1] at h; omega
    · exact h1
  have := dec_tens (M / 10 ^ z) z hd
  rw [h] at this
  rw [this]
  simp
theorem dec_mono {a b : Nat} (h : a ≤ b) : (Lib.decDigits a).length ≤ (Lib.decDigits b).length := by
  have h1 := numV_lt (Lib.decDigits b) (dec_digs b)
  rw [numV_dec] at h1
  have h2 : 1 ≤ (Lib.decDigits b).length := by
    have := dec_ne b
    cases hb : Lib.decDigits b with
    | nil => exact absurd hb this
    | cons _ _ => simp
  exact dec_lenH h2 (by omega)
theorem dec_succ (a : Nat) : (Lib.decDigits (a + 1)).length ≤ (Lib.decDigits a).length + 1 := by
  have h1 := numV_lt (Lib.decDigits a) (dec_digs a)
  rw [numV_dec] at h1
  refine dec_lenH (by omega) ?_
  rw [Nat.pow_succ]
  have : 0 < 10 ^ (Lib.decDigits a).length := Nat.pow_pos (by decide)
  omega
/-- The digits that Full tells are few enough for a text. -/
theorem full_near {id p : Int} {ng : Bool} {K mv : Nat} {ev : Int} (h : Fin id p ng K mv ev) :
    ((Lib.decDigits (fullV mv ev 2000).1).length : Int) + (fullV mv ev 2000).2 ≤ 900 ∧ -900 ≤ ((Lib.decDigits (fullV mv ev 2000).1).length : Int) + (fullV mv ev 2000).2 ∧ (Lib.decDigits (fullV mv ev 2000).1).length ≤ 1900 := by
  obtain ⟨b1, b2, b3, b4⟩ := h.bnd
  obtain ⟨l1, l2, l3, l4⟩ := h.lims
  have hn := mag_near h.h1 h.h2 l4 l3
  simp only [h.mag] at hn
  obtain ⟨n1, n2⟩ := has_near b1 b2 hn
  have hM := (hasM_bnd b2 ⟨b3, b4⟩ (show 1991 ≤ 2000 by decide)).1
  obtain ⟨z, z1, z2, -, -⟩ := stripV_is 2000 (hasM mv ev) (hasK ev) (hasM_pos b1) (Nat.lt_of_succ_lt hM)
  have hl := tens_len (hasM_pos b1) z2
  unfold fullV
  rw [z1]
  show ((Lib.decDigits (hasM mv ev / 10 ^ z)).length : Int) + (hasK ev + (z : Int)) ≤ 900 ∧ -900 ≤ ((Lib.decDigits (hasM mv ev / 10 ^ z)).length : Int) + (hasK ev + (z : Int)) ∧ (Lib.decDigits (hasM mv ev / 10 ^ z)).length ≤ 1900
  clear hM z2 z1
  unfold hasK
  by_cases he : 0 ≤ ev
  · rw [if_pos he]
    have := n1 he
    omega
  · rw [if_neg he]
    have := n2 (by omega)
    omega
/-- Those that Short tells too. -/
theorem short_near {id p : Int} {ng : Bool} {K mv : Nat} {ev : Int} (h : Fin id p ng K mv ev) :
    ((Lib.decDigits (shortV (limV id ng K) mv ev 2000).1).length : Int) + (shortV (limV id ng K) mv ev 2000).2 ≤ 900 ∧ -900 ≤ ((Lib.decDigits (shortV (limV id ng K) mv ev 2000).1).length : Int) + (shortV (limV id ng K) mv ev 2000).2 ∧ (Lib.decDigits (shortV (limV id ng K) mv ev 2000).1).length ≤ 1900 := by
  obtain ⟨b1, b2, b3, b4⟩ := h.bnd
  obtain ⟨l1, l2, l3, l4⟩ := h.lims
  have hn := mag_near h.h1 h.h2 l4 l3
  simp only [h.mag] at hn
  obtain ⟨n1, n2⟩ := has_near b1 b2 hn
  have hM := (hasM_bnd b2 ⟨b3, b4⟩ (show 1991 ≤ 2000 by decide)).1
  obtain ⟨d, k, s1, s2, s3, s4, s5, s6⟩ := short_some h
  obtain ⟨z, z1, z2, z3, -⟩ := s6 2000 hM
  have hd0 := itv_pos s1
  have hl := tens_len hd0 z2
  have hlen : (Lib.decDigits d).length ≤ (Lib.decDigits (hasM mv ev)).length + 1 := Nat.le_trans (dec_mono s5) (dec_succ _)
  have hl1 : 1 ≤ (Lib.decDigits d).length := by
    have := dec_ne d
    cases hb : Lib.decDigits d with
    | nil => exact absurd hb this
    | cons _ _ => simp
  have hone : flQ mv ev k = 0 → (Lib.decDigits d).length = 1 := by
    intro hq
    have : d = 1 := by omega
    rw [this]; decide +kernel
  have hA : flQ mv ev k * flB ev k ≤ flA mv ev k := Nat.div_mul_le_self _ _
  have hB0 : 0 < flB ev k := by unfold flB exP; exact Nat.mul_pos (Nat.mul_pos Nat.one_pos (Nat.pow_pos (by decide))) (Nat.two_pow_pos _)
  have hU : flA mv ev k < (flQ mv ev k + 1) * flB ev k := by
    have := Nat.div_add_mod (flA mv ev k) (flB ev k)
    have h2 := Nat.mod_lt (flA mv ev k) hB0
    unfold flQ
    rw [Nat.add_mul, Nat.one_mul, Nat.mul_comm (flA mv ev k / flB ev k)]
    omega
  have hBA : flQ mv ev k ≠ 0 → flB ev k ≤ flA mv ev k := fun hq => Nat.le_trans (Nat.le_mul_of_pos_left _ (Nat.pos_of_ne_zero hq)) hA
  rw [z1]
  show ((Lib.decDigits (d / 10 ^ z)).length : Int) + (k + (z : Int)) ≤ 900 ∧ -900 ≤ ((Lib.decDigits (d / 10 ^ z)).length : Int) + (k + (z : Int)) ∧ (Lib.decDigits (d / 10 ^ z)).length ≤ 1900
  have hmain : ((Lib.decDigits d).length : Int) + k ≤ 900 ∧ -900 ≤ ((Lib.decDigits d).length : Int) + k := by
    constructor
    · by_cases hq : flQ mv ev k = 0
      · have := hone hq; clear hA hU hB0 hM z2; omega
      · have hba := hBA hq
        by_cases hk : k ≤ 0
        · clear hA hU hB0 hM z2 hba
          rcases Int.lt_or_le ev 0 with he | he
          · have := n2 he; omega
          · have := n1 he; omega
        · unfold flA flB exP at hba
          rw [show (-k).toNat = 0 by omega, Nat.pow_zero, Nat.mul_one, Nat.one_mul] at hba
          obtain ⟨j, hj⟩ : ∃ j, k.toNat = j := ⟨_, rfl⟩
          have hkj : k = (j : Int) := by omega
          rw [hj] at hba
          rcases Int.lt_or_le ev 0 with he | he
          · have h2 := n2 he
            rw [show (ev - k).toNat = 0 by omega, Nat.pow_zero, Nat.mul_one, show (k - ev).toNat = j + (-ev).toNat by omega, Nat.pow_add, ← Nat.mul_assoc, ← Nat.mul_pow] at hba
            have hjm : 10 ^ j ≤ mv := Nat.le_trans (Nat.le_mul_of_pos_right _ (Nat.two_pow_pos _)) hba
            have hj20 : j < 20 := by
              rcases Nat.lt_or_ge j 20 with h | h
              · exact h
              · have := Nat.pow_le_pow_right (show 0 < 10 by decide) h
                have h9 : 18446744073709551616 ≤ 10 ^ 20 := by decide
                omega
            clear hba hjm hA hU hB0 hM z2 hBA
            omega
          · have h2 := n1 he
            have hjm : 10 ^ j ≤ hasM mv ev := by
              unfold hasM
              rw [if_pos he]
              rcases Nat.le_total j ev.toNat with h | h
              · rw [show (k - ev).toNat = 0 by omega, Nat.pow_zero, Nat.mul_one, show (ev - k).toNat = ev.toNat - j by omega] at hba
                calc 10 ^ j = 5 ^ j * 2 ^ j := by rw [← Nat.mul_pow]
                  _ ≤ mv * 2 ^ (ev.toNat - j) * 2 ^ j := Nat.mul_le_mul_right _ hba
                  _ = mv * 2 ^ ev.toNat := by rw [Nat.mul_assoc, ← Nat.pow_add, Nat.sub_add_cancel h]
              · rw [show (ev - k).toNat = 0 by omega, Nat.pow_zero, Nat.mul_one, show (k - ev).toNat = j - ev.toNat by omega] at hba
                calc 10 ^ j = 5 ^ j * 2 ^ j := by rw [← Nat.mul_pow]
                  _ = 5 ^ j * (2 ^ (j - ev.toNat) * 2 ^ ev.toNat) := by rw [← Nat.pow_add, Nat.sub_add_cancel h]
                  _ = 5 ^ j * 2 ^ (j - ev.toNat) * 2 ^ ev.toNat := by rw [Nat.mul_assoc]
                  _ ≤ mv * 2 ^ ev.toNat := Nat.mul_le_mul_right _ hba
            have := dec_lowH hjm
            clear hba hjm hA hU hB0 hM z2 hBA
            omega
    · rcases Int.lt_or_le k (-900) with hk | hk
      · have he : ev < 0 := by omega
        obtain ⟨j, hj⟩ : ∃ j, (-k).toNat = j := ⟨_, rfl⟩
        have hjk : k = -(j : Int) := by omega
        have h2d : (flQ mv ev k + 1) ≤ 2 * d := by omega
        obtain ⟨a, ha⟩ : ∃ a : Nat, a = 225 := ⟨_, rfl⟩
        have hU2 : flA mv ev k < 2 * d * flB ev k := Nat.lt_of_lt_of_le hU (Nat.mul_le_mul_right _ h2d)
        unfold flA flB exP at hU2
        rw [show k.toNat = 0 by omega, hj, show (ev - k).toNat = 0 by omega] at hU2
        simp only [Nat.pow_zero, Nat.mul_one, Nat.one_mul] at hU2
        have h1 : 5 ^ (a * 4) ≤ mv * 5 ^ j := Nat.le_trans (Nat.pow_le_pow_right (by decide) (by omega)) (Nat.le_mul_of_pos_left _ b1)
        have h2 : 2 * d * 2 ^ (k - ev).toNat ≤ 2 * d * 2 ^ 200 := Nat.mul_le_mul_left _ (Nat.pow_le_pow_right (by decide) (by omega))
        have h3 : 5 ^ (a * 4) < 2 * d * 2 ^ 200 := Nat.lt_of_le_of_lt h1 (Nat.lt_of_lt_of_le hU2 h2)
        have h4 : 10 ^ 200 ≤ d := by
          rcases Nat.lt_or_ge d (10 ^ 200) with h | h
          · exfalso
            have h5 : 2 * d * 2 ^ 200 ≤ 2 * 10 ^ 200 * 2 ^ 200 := Nat.mul_le_mul_right _ (Nat.mul_le_mul_left _ (Nat.le_of_lt h))
            have h6 : 2 * 10 ^ 200 * 2 ^ 200 ≤ 5 ^ (a * 4) := by rw [Nat.pow_mul, ha]; decide +kernel
            exact absurd (Nat.lt_of_lt_of_le h3 (Nat.le_trans h5 h6)) (Nat.lt_irrefl _)
          · exact h
        have := dec_lowH h4
        clear h1 h2 h3 h4 hU2 hA hU hB0 hM z2 hBA
        omega
      · clear hA hU hB0 hM z2 hBA; omega
  obtain ⟨m1, m2⟩ := hmain
  have h19 : (Lib.decDigits (hasM mv ev)).length ≤ 800 := by
    rcases Int.lt_or_le ev 0 with he | he
    · exact (n2 he).1
    · have := n1 he; omega
  clear hA hU hB0 hM z2 hBA n1 n2
  omega
/-- A text of digits, parsed. -/
theorem par_ly {id mode : Int} {neg : Bool} {d : Nat} {k : Int} (hE : roundE id mode = 0) (h : DRight d k) (hn : ((Lib.decDigits d).length : Int) + k ≤ 900) (hn' : -900 ≤ ((Lib.decDigits d).length : Int) + k) (hl : (Lib.decDigits d).length ≤ 1900) :
    parV id mode (lyT neg d k) = (roundP id mode neg (exP d k k) (exQ k k), 0, 0) := by
  obtain ⟨a1, a2⟩ := lyT_item h neg 1125899906842624 (by decide) hn hn' hl
  unfold parV
  rw [if_neg (by rw [hE]; decide), if_neg (by rw [a1]; decide), a2]
  unfold parI
  rw [if_pos rfl]
  rfl
theorem uN_zeroT {kd wd mn bs : Nat} (h : kd ≤ 3) (h0 : 0 < kd) : uN kd wd mn bs (2 * 0) = 0 := by
  unfold uN
  have h3 : kd = 1 ∨ kd = 2 ∨ kd = 3 := by omega
  rcases h3 with rfl | rfl | rfl
  · rfl
  · simp [miW, miM]
  · simp
/-- A pattern of a number is that of its sign and magnitude. -/
theorem part_pat {id p : Int} (h1 : 1 ≤ id) (h2 : id < 15) (hp0 : 0 ≤ p) (hp1 : p < 2 ^ (fW id).toNat) (hc : classV id p = 1 ∨ classV id p = 2) : patV id (partN id p) (partK id p) = p ∧ isnB id p = true := by
  rcases id_cases h1 h2 with rfl | rfl | rfl | rfl | rfl | rfl | rfl | rfl | rfl | rfl | rfl | rfl | rfl | rfl <;>
    simp [classV, patV, isnB, partK, partN, fK, fW, fT, fN, fI] at hp1 hc ⊢ <;> (repeat' split at hc) <;> simp_all <;> omega
theorem canon_num {id p : Int} (h1 : 1 ≤ id) (h2 : id < 15) (hp0 : 0 ≤ p) (hp1 : p < 2 ^ (fW id).toNat) (hc : classV id p = 1 ∨ classV id p = 2) : canonV id p = p := by
  have hf : fitsV id p = 0 := by unfold fitsV; rw [if_neg (by omega), if_pos hp1]
  unfold canonV
  rw [if_pos hf, if_pos (part_pat h1 h2 hp0 hp1 hc).2]
theorem class_one_key {id p : Int} (hc : classV id p = 1) : partK id p = 0 ∧ fK id ≠ 4 := by
  unfold classV at hc
  split at hc
  · cases hc
  · split at hc
    · cases hc
    · split at hc
      · rename_i h; exact h
      · cases hc
/-- Words, as Parse reads them. -/
theorem par_word {id mode : Int} (hE : roundE id mode = 0) (l : List UInt8) (kd : Nat) (neg : Bool) (hs : (textS l).1 = true) (hk : (textV 1125899906842624 l).kind = kd) (hn : (textV 1125899906842624 l).neg = neg) (h1 : kd ≠ 1) (hb : wordB id kd neg = true) :
    parV id mode l = (wordP id kd neg, 0, 0) := by
  unfold parV
  rw [if_neg (by rw [hE]; decide), if_neg (by rw [hs]; decide)]
  unfold parI
  rw [hk, hn, if_neg h1, if_pos hb]
theorem class_three {id p : Int} (h1 : 1 ≤ id) (h2 : id < 15) (_ : 0 ≤ p) (hp1 : p < 2 ^ (fW id).toNat) (hc : classV id p = 3) : (∀ neg, wordB id 2 neg = true) ∧ wordP id 2 (partN id p) = p ∧ canonV id p = p := by
  rcases id_cases h1 h2 with rfl | rfl | rfl | rfl | rfl | rfl | rfl | rfl | rfl | rfl | rfl | rfl | rfl | rfl <;>
    simp [classV, wordB, wordP, canonV, fitsV, isnB, partK, partN, fK, fW, fT, fN, fI] at hp1 hc ⊢ <;> (repeat' split at hc) <;> simp_all <;> omega
theorem class_four {id p : Int} (h1 : 1 ≤ id) (h2 : id < 15) (hp0 : 0 ≤ p) (hp1 : p < 2 ^ (fW id).toNat) (hc : classV id p = 4) : wordB id (if fK id = 1 then 4 else 3) false = true ∧ canonV id p = fN id := by
  rcases id_cases h1 h2 with rfl | rfl | rfl | rfl | rfl | rfl | rfl | rfl | rfl | rfl | rfl | rfl | rfl | rfl <;>
    simp [classV, wordB, canonV, fitsV, isnB, partK, partN, fK, fW, fT, fN, fI] at hp1 hc ⊢ <;> (repeat' split at hc) <;> simp_all <;> omega
theorem word_inf : (textS [105, 110, 102]).1 = true ∧ (textV 1125899906842624 [105, 110, 102]).kind = 2 ∧ (textV 1125899906842624 [105, 110, 102]).neg = false := by decide +kernel
theorem word_minf : (textS [45, 105, 110, 102]).1 = true ∧ (textV 1125899906842624 [45, 105, 110, 102]).kind = 2 ∧ (textV 1125899906842624 [45, 105, 110, 102]).neg = true := by decide +kernel
theorem word_nan : (textS [110, 97, 110]).1 = true ∧ (textV 1125899906842624 [110, 97, 110]).kind = 3 ∧ (textV 1125899906842624 [110, 97, 110]).neg = false := by decide +kernel
theorem word_nar : (textS [78, 97, 82]).1 = true ∧ (textV 1125899906842624 [78, 97, 82]).kind = 4 ∧ (textV 1125899906842624 [78, 97, 82]).neg = false := by decide +kernel
/-- What is told of no number, or of nought, is parsed as Canon. -/
theorem par_nf {id mode p : Int} (hE : roundE id mode = 0) (h1 : 1 ≤ id) (h2 : id < 15) (hp0 : 0 ≤ p) (hp1 : p < 2 ^ (fW id).toNat) (hc : classV id p ≠ 2) : parV id mode (nfT id p) = (canonV id p, 0, 0) := by
  rcases class_all id p with h | h | h | h
  · obtain ⟨k0, k4⟩ := class_one_key h
    have hn : nfT id p = lyT (partN id p) 0 0 := by
      rw [lyT_zero]
      unfold nfT decN wrdT
      rw [h]
      cases partN id p <;> rfl
    rw [hn, par_ly hE (.inl ⟨rfl, rfl⟩) (by decide +kernel) (by decide +kernel) (by decide +kernel), canon_num h1 h2 hp0 hp1 (.inl h)]
    have hm : mostE id (partN id p) = 0 := by
      unfold mostE
      rw [if_neg (by omega), if_neg (fun h => k4 h.2)]
    have hb := (mostV_bnd id (partN id p)).1
    have hf := fK_bnd id
    have := round_own (mode := mode) (key := 0) (P := exP 0 0 0) (Q := exQ 0 0) hm (exQ_pos _ _) (by omega) (.inr (.inr (by simp [exP]))) (fun h => absurd h k4) (by
      rw [uN_zeroT (by omega) (by omega)]; simp [exP])
    rw [this]
    have hp := (part_pat h1 h2 hp0 hp1 (.inl h)).1
    rw [k0] at hp
    rw [show ((0 : Nat) : Int) = 0 from rfl, hp]
  · exact absurd h hc
  · obtain ⟨c1, c2, c3⟩ := class_three h1 h2 hp0 hp1 h
    have hn : nfT id p = if partN id p = true then [45, 105, 110, 102] else [105, 110, 102] := by
      unfold nfT decN wrdT
      rw [h]
      cases partN id p <;> rfl
    rw [hn, c3]
    cases hs : partN id p
    · obtain ⟨w1, w2, w3⟩ := word_inf
      rw [hs] at c2
      rw [if_neg (by decide), par_word hE _ 2 false w1 w2 w3 (by decide) (c1 _)]
      exact congrArg (fun x => (x, (0 : Int), (0 : Int))) c2
    · obtain ⟨w1, w2, w3⟩ := word_minf
      rw [hs] at c2
      rw [if_pos rfl, par_word hE _ 2 true w1 w2 w3 (by decide) (c1 _)]
      exact congrArg (fun x => (x, (0 : Int), (0 : Int))) c2
  · obtain ⟨c1, c3⟩ := class_four h1 h2 hp0 hp1 h
    have hn : nfT id p = if fK id = 1 then [78, 97, 82] else [110, 97, 110] := by
      unfold nfT decN wrdT
      rw [h]
      by_cases h1 : fK id = 1 <;> simp [h1]
    rw [hn, c3]
    by_cases hk : fK id = 1
    · obtain ⟨w1, w2, w3⟩ := word_nar
      rw [if_pos hk] at c1
      rw [if_pos hk, par_word hE _ 4 false w1 w2 w3 (by decide) c1]
      rfl
    · obtain ⟨w1, w2, w3⟩ := word_nan
      rw [if_neg hk] at c1
      rw [if_neg hk, par_word hE _ 3 false w1 w2 w3 (by decide) c1]
      rfl
/-- What is printed is parsed as Canon. -/
theorem par_pri {id mode p : Int} (hE : roundE id mode = 0) (hf : fitsV id p = 0) (hp0 : 0 ≤ p) : parV id mode (priT id p) = (canonV id p, 0, 0) ∧ parV id mode (fulT id p) = (canonV id p, 0, 0) := by
  obtain ⟨h1, h2, hp1⟩ := fits_two hf
  unfold priT fulT
  rw [if_neg (show ¬ fitsV id p ≠ 0 from fun h => h hf), if_neg (show ¬ fitsV id p ≠ 0 from fun h => h hf)]
  by_cases hc : classV id p = 2
  · rw [if_pos hc, if_pos hc, canon_num h1 h2 hp0 hp1 (.inr hc)]
    have fx := fin_of h1 h2 hp0 hp1 hc
    obtain ⟨b1, b2, b3, b4⟩ := fx.bnd
    obtain ⟨l1, l2, l3, l4⟩ := fx.lims
    have hM := (hasM_bnd b2 ⟨b3, b4⟩ (show 1991 ≤ 2000 by decide)).1
    have hpat : patV id (partN id p) ((priK id p : Nat) : Int) = p := by
      have := (part_pat h1 h2 hp0 hp1 (.inr hc)).1
      rwa [fx.key] at this
    obtain ⟨x1, x2, x3⟩ := short_near fx
    obtain ⟨y1, y2, y3⟩ := full_near fx
    have rx := short_right fx
    have ry := full_right fx
    constructor
    · unfold shoD
      rw [par_ly hE rx x1 x2 x3]
      obtain ⟨d, k, n1, -, -, -, -, n6⟩ := short_some fx
      obtain ⟨z, z1, z2, -, -⟩ := n6 2000 hM
      rw [z1]
      show (roundP id mode (partN id p) (exP (d / 10 ^ z) (k + z) (k + z)) (exQ (k + z) (k + z)), (0 : Int), (0 : Int)) = _
      rw [← roundP_cross (exQ_pos _ _) (exQ_pos _ _) (tens_cross z2), itv_round l1 l2 (fun h => l3 (by omega)) n1, hpat]
    · unfold fulD
      rw [par_ly hE ry y1 y2 y3]
      obtain ⟨z, z1, z2, -, -⟩ := stripV_is 2000 (hasM (decM id p) (decE id p)) (hasK (decE id p)) (hasM_pos b1) (Nat.lt_of_succ_lt hM)
      unfold fullV
      rw [z1]
      show (roundP id mode (partN id p) (exP (hasM (decM id p) (decE id p) / 10 ^ z) (hasK (decE id p) + z) (hasK (decE id p) + z)) (exQ (hasK (decE id p) + z) (hasK (decE id p) + z)), (0 : Int), (0 : Int)) = _
      rw [← roundP_cross (exQ_pos _ _) (exQ_pos _ _) (tens_cross z2), roundP_cross (exQ_pos _ _) (exQ_pos _ _) (has_cross (decM id p) (decE id p))]
      obtain ⟨-, -, -, -, a5, a6⟩ := mag_range0 h1 h2 l4 l3
      rw [fx.mag] at a5 a6
      rw [round_own l1 (exQ_pos _ _) l2 (by
        by_cases h4 : fK id = 4
        · exact .inl h4
        · exact .inr (.inl (l3 h4))) (fun _ => exP_pos _ _ b1) (sc_of a5 a6), hpat]
  · rw [if_neg hc, if_neg hc]
    exact ⟨par_nf hE h1 h2 hp0 hp1 hc, par_nf hE h1 h2 hp0 hp1 hc⟩
end Go.Proofs.YtdlkfnkmdlcekaaGreatDoor
namespace Go.Proofs.YtdlkfnkmdlcekaaGreatDoor
open Go.RowKit Go.Cal
theorem xdec_s {w : World} {d : Value} {m N : Nat} (neg : Bool) (k : Int) (h : IsN w d m N) (hm : m ≤ 1048576) (hN : N < 18446744073709551616 ^ 128) (hk : -5000 ≤ k ∧ k ≤ 5000) :
    Calls Tryz.prog 27 #[.bool neg, d, .int .i64 k] w fun e w' => ∃ A5 n5 c5, e = .returned (.tuple #[.agg #[.bool neg, .slice A5 n5 c5, .int .i64 k, .int .i64 k], .bool true]) ∧ IsT w' (.slice A5 n5 c5) 128 N ∧ Below w.heap.size w w' := by
  refine (xdec_yes neg k h hm hN hk).mono ?_
  rintro e w' ⟨v, rfl, hv, hb⟩
  obtain ⟨A, c, zs, rfl, -⟩ := id hv
  exact ⟨A, _, c, rfl, hv, hb⟩
set_option maxRecDepth 100000 in
set_option maxHeartbeats 1000000 in
theorem number_near (kd : Int) (neg cut : Bool) {A : Option Addr} {n c m D : Nat} (k : Int) {w : World} (h : IsN w (.slice A n c) m D) (hm : m ≤ 1048576) (hN : D < 18446744073709551616 ^ 128) (hk : -5000 ≤ k ∧ k ≤ 5000) :
    Calls Tryz.prog 46 #[.agg #[.int .i64 kd, .bool neg, .slice A n c, .int .i64 k, .int .i64 0, .bool cut]] w fun e w' => ∃ A5 n5 c5, e = .returned (.agg #[.bool neg, .slice A5 n5 c5, .int .i64 k, .int .i64 k]) ∧ IsT w' (.slice A5 n5 c5) 128 D ∧ Below w.heap.size w w' := by
  have hb0 : Below w.heap.size w ((w.alloc (.cells #[.int .i64 kd, .bool neg, .slice A n c, .int .i64 k, .int .i64 0, .bool cut] 63)).alloc (.cells #[.bool false, .slice none 0 0, .int .i64 0, .int .i64 0] 56)) := ((Below.refl _ _).alloc (Nat.le_refl _) _).alloc (by simp) _
  have hd := Lib.hid (xdec_s neg k (h.below hb0) hm hN hk)
  have hp0 : pBlk (w.heap.size + 1) #[.bool false, .slice none 0 0, .int .i64 0, .int .i64 0] 56 ((w.alloc (.cells #[.int .i64 kd, .bool neg, .slice A n c, .int .i64 k, .int .i64 0, .bool cut] 63)).alloc (.cells #[.bool false, .slice none 0 0, .int .i64 0, .int .i64 0] 56)) := by
    have := pBlk_made (w.alloc (.cells #[.int .i64 kd, .bool neg, .slice A n c, .int .i64 k, .int .i64 0, .bool cut] 63)) #[.bool false, .slice none 0 0, .int .i64 0, .int .i64 0] 56
    rw [show (w.alloc (.cells #[.int .i64 kd, .bool neg, .slice A n c, .int .i64 k, .int .i64 0, .bool cut] 63)).heap.size = w.heap.size + 1 by simp] at this
    exact this
  replace hN := Lib.hid hN
  clear h
  go_enter Tryz.func46, Tryz.ntmps46
  go_wp2_with fail
  refine hd.out.mono ?_
  rintro e w1 ⟨A5, n5, c5, rfl, hv, hb⟩
  have hz := hb.size
  simp at hz
  have hB : Below w.heap.size w w1 := hb0.trans (hb.mono (by simp; omega))
  have hp1 := pBlk_st _ _ _ _ _ (pBlk_st _ _ _ _ _ hp0 hb) ((Below.refl _ _).alloc (Nat.le_refl _) (.cells #[.bool false, .slice none 0 0, .int .i64 0, .int .i64 0] 56))
  have hv0 := hv.below ((Below.refl _ _).alloc (Nat.le_refl _) (.cells #[.bool false, .slice none 0 0, .int .i64 0, .int .i64 0] 56))
  go_wp2_with (first
    | ((with_reducible show wpList _ _ _ (Oper.mk _ (Op.store 56 _ _) _ _ _ _ :: _) _ _); refine wpList_store_keep _ rfl 56 _ _ rfl w1.heap.size #[.bool neg, .slice A5 n5 c5, .int .i64 k, .int .i64 k] #[.bool false, .slice none 0 0, .int .i64 0, .int .i64 0] 56 rfl rfl (pBlk_made w1 #[.bool false, .slice none 0 0, .int .i64 0, .int .i64 0] 56) exact_size rfl (by simp [Value.oneCell']) noU ?_; intro w2 hp2 hb2 hk2; obtain ⟨r0, r1, r2, r3⟩ := cells4 hp2; have hq := pBlk_keep hp1 hb2 (by omega); have hv2 := hk2 _ _ _ hv0)
    | ((with_reducible show wpList _ _ _ (Oper.mk _ (Op.store 56 _ _) _ _ _ _ :: _) _ _); refine wpList_store_keep _ rfl 56 _ _ rfl (w.heap.size + 1) #[.bool neg, .slice A5 n5 c5, .int .i64 k, .int .i64 k] #[.bool false, .slice none 0 0, .int .i64 0, .int .i64 0] 56 rfl rfl hq exact_size rfl (by simp [Value.oneCell']) noU ?_; intro w3 hp3 hb3 hk3; obtain ⟨s0, s1, s2, s3⟩ := cells4 hp3; have hv3 := hk3 _ _ _ hv2))
  have hB3 : Below w.heap.size w w3 := ((hB.alloc hB.size _).trans (hb2.mono hB.size)).trans (hb3.mono (Nat.le_succ _))
  exact bodyPost_ret (v := .agg #[.bool neg, .slice A5 n5 c5, .int .i64 k, .int .i64 k]) (by simp [results, Tryz.results46, go_sem, s0, s1, s2, s3]) rfl ⟨A5, n5, c5, rfl, hv3, hB3⟩
theorem pBlk.othX {g g' : Nat} {cs : Array Value} {t : TypeId} {w : World} (h : pBlk g cs t w) (hne : g ≠ g') (i : Nat) (u : Value) : pBlk g cs t (w.setCell ⟨g', i, none⟩ u) := by
  unfold pBlk at *
  simp only [World.setCell, Array.getElem?_modify]
  rw [if_neg (fun e => hne e.symm)]
  exact h
set_option maxRecDepth 100000 in
set_option maxHeartbeats 2000000 in
theorem number_far (kd : Int) (neg cut : Bool) (A : Option Addr) (n c : Nat) (k big : Int) (hbg : big = 1 ∨ big = -1) (w : World) :
    Calls Tryz.prog 46 #[.agg #[.int .i64 kd, .bool neg, .slice A n c, .int .i64 k, .int .i64 big, .bool cut]] w fun e w' => ∃ A5 n5 c5, e = .returned (.agg #[.bool neg, .slice A5 n5 c5, .int .i64 (big * 1000), .int .i64 (big * 1000)]) ∧ IsT w' (.slice A5 n5 c5) 128 1 ∧ Below w.heap.size w w' := by
  have hb0 : Below w.heap.size w ((w.alloc (.cells #[.int .i64 kd, .bool neg, .slice A n c, .int .i64 k, .int .i64 big, .bool cut] 63)).alloc (.cells #[.bool false, .slice none 0 0, .int .i64 0, .int .i64 0] 56)) := ((Below.refl _ _).alloc (Nat.le_refl _) _).alloc (by simp) _
  have hp0 : pBlk (w.heap.size + 1) #[.bool false, .slice none 0 0, .int .i64 0, .int .i64 0] 56 ((w.alloc (.cells #[.int .i64 kd, .bool neg, .slice A n c, .int .i64 k, .int .i64 big, .bool cut] 63)).alloc (.cells #[.bool false, .slice none 0 0, .int .i64 0, .int .i64 0] 56)).drew := by
    have := pBlk_st _ _ _ _ _ (pBlk_made (w.alloc (.cells #[.int .i64 kd, .bool neg, .slice A n c, .int .i64 k, .int .i64 big, .bool cut] 63)) #[.bool false, .slice none 0 0, .int .i64 0, .int .i64 0] 56) (Below.refl _ _).drew
    rw [show (w.alloc (.cells #[.int .i64 kd, .bool neg, .slice A n c, .int .i64 k, .int .i64 big, .bool cut] 63)).heap.size = w.heap.size + 1 by simp] at this
    exact this
  have hf0 : pBlk w.heap.size #[.int .i64 kd, .bool neg, .slice A n c, .int .i64 k, .int .i64 big, .bool cut] 63 ((w.alloc (.cells #[.int .i64 kd, .bool neg, .slice A n c, .int .i64 k, .int .i64 big, .bool cut] 63)).alloc (.cells #[.bool false, .slice none 0 0, .int .i64 0, .int .i64 0] 56)).drew := pBlk_st _ _ _ _ _ (pBlk_st _ _ _ _ _ (pBlk_made w #[.int .i64 kd, .bool neg, .slice A n c, .int .i64 k, .int .i64 big, .bool cut] 63) ((Below.refl _ _).alloc (Nat.le_refl _) (.cells #[.bool false, .slice none 0 0, .int .i64 0, .int .i64 0] 56))) (Below.refl _ _).drew
  have hof := Lib.hid fun w' => nof_x w' 1 (by decide)
  have hbn : (big != 0) = true := by rcases hbg with rfl | rfl <;> rfl
  have hl1 : -1 ≤ big := by omega
  have hl2 : big ≤ 1 := by omega
  have hwr := Lib.hid (show IntKind.i64.wrap (big * 1000) = big * 1000 by rw [IntKind.wrap_i64]; omega)
  go_enter Tryz.func46, Tryz.ntmps46
  go_wp2_with fail
  go_region_with (go_at_call 60; refine (hof.out _).mono ?_; rintro e w2 ⟨A2, n2, c2, rfl, hv2, hb2⟩; obtain ⟨hc2, hf2⟩ := bcell hb2)
  all_goals
    rw [hwr.out]
    have hno : ∀ (a b c d e f : Value), (∀ n, a ≠ .int .u64 n) → (∀ n, b ≠ .int .u64 n) → (∀ n, c ≠ .int .u64 n) → (∀ n, d ≠ .int .u64 n) → (∀ n, e ≠ .int .u64 n) → (∀ n, f ≠ .int .u64 n) → ∀ x ∈ (#[a, b, c, d, e, f] : Array Value).toList, ∀ n, x ≠ .int .u64 n := by
      intro a b c d e f ha hb hc hd he hf x hx
      simp at hx
      rcases hx with rfl | rfl | rfl | rfl | rfl | rfl <;> assumption
    have hf2' := pBlk_st _ _ _ _ _ hf0 hb2
    have hp2 := pBlk_st _ _ _ _ _ hp0 hb2
    have hvf := IsT.apartX (i := 3) (u := .int .i64 (big * 1000)) (IsT.apartX (i := 2) (u := .slice A2 n2 c2) hv2 hf2' (hno _ _ _ _ _ _ (by simp) (by simp) (by simp) (by simp) (by simp) (by simp))) (hf2'.setX 2 (.slice A2 n2 c2)) (hno _ _ _ _ _ _ (by simp) (by simp) (by simp) (by simp) (by simp) (by simp))
    have hff := (hf2'.setX 2 (.slice A2 n2 c2)).setX 3 (.int .i64 (big * 1000))
    have hpf := (hp2.othX (g' := w.heap.size) (by omega) 2 (.slice A2 n2 c2)).othX (g' := w.heap.size) (by omega) 3 (.int .i64 (big * 1000))
    have hBw : Below w.heap.size w w2 := hb0.trans ((Below.refl _ _).drew.trans (hb2.mono (by simp; omega)))
    have hBf := (hBw.setCell (p := ⟨w.heap.size, 2, none⟩) (Nat.le_refl _) (.slice A2 n2 c2)).setCell (p := ⟨w.heap.size, 3, none⟩) (Nat.le_refl _) (.int .i64 (big * 1000))
    generalize ((w2.setCell ⟨w.heap.size, 2, none⟩ (.slice A2 n2 c2)).setCell ⟨w.heap.size, 3, none⟩ (.int .i64 (big * 1000))) = w3 at hvf hff hpf hBf ⊢
    have y1 := pBlk.cell hff 1 (.bool neg) rfl
    have y2 := pBlk.cell hff 2 (.slice A2 n2 c2) rfl
    have y3 := pBlk.cell hff 3 (.int .i64 (big * 1000)) rfl
    have hd := Lib.hid (xdec_s neg (big * 1000) (IsT.isN hvf) (by decide) (by decide) ⟨by omega, by omega⟩)
    clear hno hf2' hp2 hBw hc2 hf2 hf0 hp0 hv2 hb2 hff
    go_wp2_with fail
    refine hd.out.mono ?_
    rintro e w4 ⟨A5, n5, c5, rfl, hv, hb⟩
    have hz := hb.size
    have hzl : w.heap.size + 1 < w3.heap.size := by
      have := hpf
      unfold pBlk at this
      exact (Array.getElem?_eq_some_iff.1 this).1
    have hB : Below w.heap.size w w4 := hBf.trans (hb.mono (by omega))
    have hp1 := pBlk_st _ _ _ _ _ (pBlk_st _ _ _ _ _ hpf hb) ((Below.refl _ _).alloc (Nat.le_refl _) (.cells #[.bool false, .slice none 0 0, .int .i64 0, .int .i64 0] 56))
    have hv0 := hv.below ((Below.refl _ _).alloc (Nat.le_refl _) (.cells #[.bool false, .slice none 0 0, .int .i64 0, .int .i64 0] 56))
    clear y1 y2 y3 hd
    go_wp2_with (first
      | ((with_reducible show wpList _ _ _ (Oper.mk _ (Op.store 56 _ _) _ _ _ _ :: _) _ _); refine wpList_store_keep _ rfl 56 _ _ rfl w4.heap.size #[.bool neg, .slice A5 n5 c5, .int .i64 (big * 1000), .int .i64 (big * 1000)] #[.bool false, .slice none 0 0, .int .i64 0, .int .i64 0] 56 rfl rfl (pBlk_made w4 #[.bool false, .slice none 0 0, .int .i64 0, .int .i64 0] 56) exact_size rfl (by simp [Value.oneCell']) noU ?_; intro w5 hp2 hb2 hk2; obtain ⟨r0, r1, r2, r3⟩ := cells4 hp2; have hq := pBlk_keep hp1 hb2 (by omega); have hv2 := hk2 _ _ _ hv0)
      | ((with_reducible show wpList _ _ _ (Oper.mk _ (Op.store 56 _ _) _ _ _ _ :: _) _ _); refine wpList_store_keep _ rfl 56 _ _ rfl (w.heap.size + 1) #[.bool neg, .slice A5 n5 c5, .int .i64 (big * 1000), .int .i64 (big * 1000)] #[.bool false, .slice none 0 0, .int .i64 0, .int .i64 0] 56 rfl rfl hq exact_size rfl (by simp [Value.oneCell']) noU ?_; intro w6 hp3 hb3 hk3; obtain ⟨s0, s1, s2, s3⟩ := cells4 hp3; have hv3 := hk3 _ _ _ hv2))
    have hB3 : Below w.heap.size w w6 := ((hB.alloc hB.size _).trans (hb2.mono hB.size)).trans (hb3.mono (Nat.le_succ _))
    exact bodyPost_ret (v := .agg #[.bool neg, .slice A5 n5 c5, .int .i64 (big * 1000), .int .i64 (big * 1000)]) (by simp [results, Tryz.results46, go_sem, s0, s1, s2, s3]) rfl ⟨A5, n5, c5, rfl, hv3, hB3⟩
end Go.Proofs.YtdlkfnkmdlcekaaGreatDoor
namespace Go.Proofs.YtdlkfnkmdlcekaaGreatDoor
open Go.RowKit Go.Cal
theorem qassert (a b : Int) (xt : TypeId) (w : World) : (Instr.typeAssert (.iface 90 (.agg #[.int .i64 a, .int .i64 b])) xt 90 true).run Tryz.prog w = .ok (.tuple #[.agg #[.int .i64 a, .int .i64 b], .bool true]) w := by
  unfold Instr.typeAssert
  simp [run_underlying Tryz.underlying90, Sem.run_bind, Sem.run_pure]
theorem cell_ltX {w : World} {g : Nat} {cs : Array Value} {t : TypeId} (h : pBlk g cs t w) : g < w.heap.size := by
  unfold pBlk at h
  exact (Array.getElem?_eq_some_iff.1 h).1
set_option maxRecDepth 100000 in
theorem qcatch_idle (g : Nat) (w : World) :
    CallsD Tryz.prog 43 #[.pointer (some ⟨g, 0, none⟩), .pointer (some ⟨g + 1, 0, none⟩), .pointer (some ⟨g + 2, 0, none⟩)] .returning w fun e u' w' => e = .returned (.tuple #[]) ∧ u' = .returning ∧ w' = w := by
  refine callsD_of_wpS Tryz.func43 rfl fun c₀ cs hu => ?_
  apply wpS_seq
  apply wpS_region
  simp [wpOpsS, go_sem, recoverD, hu, Tryz.ntmps43, Exit.thenS]
  apply wpS_seq
  apply wpS_region
  simp [wpOpsS, go_sem, Exit.thenS]
  refine wpS_cond (t := false) (by simp [Act.eval, Array.replicate]) ?_
  simp only [Bool.false_eq_true, if_false]
  refine wpS_of_wp (wp_skip ?_)
  cases c₀
  simp_all [bodyPostS, results, Tryz.results43]
set_option maxRecDepth 100000 in
set_option maxHeartbeats 1000000 in
theorem qcatch_thrown (g : Nat) (a b : Int) (older : List PanicEntry) (w : World) {x y z : Value} (p0 : pBlk g #[x] 22 w) (p1 : pBlk (g + 1) #[y] 3 w) (p2 : pBlk (g + 2) #[z] 26 w) :
    CallsD Tryz.prog 43 #[.pointer (some ⟨g, 0, none⟩), .pointer (some ⟨g + 1, 0, none⟩), .pointer (some ⟨g + 2, 0, none⟩)] (.panicking ({ v := .iface 90 (.agg #[.int .i64 a, .int .i64 b]), recovered := false } :: older)) w fun e u' w' =>
      e = .returned (.tuple #[]) ∧ u' = .panicking ({ v := .iface 90 (.agg #[.int .i64 a, .int .i64 b]), recovered := true } :: older) ∧ pBlk g #[.int .u64 0] 22 w' ∧ pBlk (g + 1) #[.int .i64 a] 3 w' ∧ pBlk (g + 2) #[.int .i64 b] 26 w' ∧ Below g w w' := by
  have hta := qassert a b
  have c0 := p0.cell 0 _ rfl
  have c1 := p1.cell 0 _ rfl
  have c2 := p2.cell 0 _ rfl
  have f0 := p0.free 0
  have f1 := p1.free 0
  have f2 := p2.free 0
  have hg := cell_ltX p0
  have he := cell_ltX p1
  have he2 := cell_ltX p2
  refine callsD_of_wpS Tryz.func43 rfl fun c₀ cs hu => ?_
  apply wpS_seq
  apply wpS_region
  simp [wpOpsS, go_sem, recoverD, hu, Tryz.ntmps43, Exit.thenS]
  apply wpS_seq
  apply wpS_region
  simp [wpOpsS, go_sem, Exit.thenS]
  refine wpS_cond (t := true) (by simp [Act.eval, Array.replicate]) ?_
  simp only [if_true]
  refine wpS_of_wp ?_
  simp [Array.replicate]
  go_wp2
  go_region
  go_wp2
  simp [bodyPostS, results, Tryz.results43]
  have hB := (((Below.refl g w).setCell (p := ⟨g, 0, none⟩) (Nat.le_refl _) (.int .u64 0)).setCell (p := ⟨g + 1, 0, none⟩) (Nat.le_succ _) (.int .i64 a)).setCell (p := ⟨g + 2, 0, none⟩) (Nat.le_add_right _ _) (.int .i64 b)
  have k0 := ((p0.setX 0 (.int .u64 0)).othX (g' := g + 1) (by omega) 0 (.int .i64 a)).othX (g' := g + 2) (by omega) 0 (.int .i64 b)
  have k1 := ((p1.othX (g' := g) (by omega) 0 (.int .u64 0)).setX 0 (.int .i64 a)).othX (g' := g + 2) (by omega) 0 (.int .i64 b)
  have k2 := ((p2.othX (g' := g) (by omega) 0 (.int .u64 0)).othX (g' := g + 1) (by omega) 0 (.int .i64 a)).setX 0 (.int .i64 b)
  have hD := fun W : World => ((Below.refl W.heap.size W).alloc (Nat.le_refl _) (.cells #[.int .i64 a, .int .i64 b] 90)).drew
  refine ⟨pBlk_st _ _ _ _ _ k0 (hD _), pBlk_st _ _ _ _ _ k1 (hD _), pBlk_st _ _ _ _ _ k2 (hD _), hB.trans ((hD _).mono ?_)⟩
  simp [World.setCell]
  omega
end Go.Proofs.YtdlkfnkmdlcekaaGreatDoor
