/- The theorem TopPosits, walked. Conditions: the variables that values and words read. -/
import Derived.Test.YtehpneojiinmdaaGreatDoorTq25
import Derived.Laws.Bits64b
namespace Go.Proofs.YtehpneojiinmdaaGreatDoor
open Go.RowKit Go.Cal
theorem mask_mod (p : Int) (W : Nat) (hW : W ≤ 63) (h0 : 0 ≤ p) (h1 : p < 18446744073709551616) : bits .and .u64 p ((2 : Int) ^ W - 1) = p % (2 : Int) ^ W := by
  obtain ⟨k, rfl⟩ := Int.eq_ofNat_of_zero_le h0
  obtain ⟨M, hM⟩ : ∃ M, 2 ^ W = M + 1 := ⟨2 ^ W - 1, by have := Nat.one_le_two_pow (n := W); omega⟩
  have e2 : (2 : Int) ^ W = ((2 ^ W : Nat) : Int) := by push_cast; rfl
  have hlt : M < 18446744073709551616 := by
    have : 2 ^ W ≤ 2 ^ 63 := Nat.pow_le_pow_right (by decide) hW
    omega
  have hmod : k &&& M = k % 2 ^ W := by
    have := Nat.and_two_pow_sub_one_eq_mod k W
    rwa [hM, show M + 1 - 1 = M by omega, ← hM] at this
  rw [e2, hM, show (((M + 1 : Nat) : Int) - 1) = ((M : Nat) : Int) by omega, bits_and_u64_nat k M (by omega) hlt, hmod, hM]
  omega
set_option maxRecDepth 100000 in
set_option maxHeartbeats 4000000 in
theorem posits_main (i0 p0 id p q fk fm fb ft fi fn c e : Int) (W : Nat) (n : Bool) (m : Nat) (T : List UInt8)
    (hi : (bits .and .i64 i0 65535).tmod 3 = id - 1) (i1 : 1 ≤ id) (i3 : id ≤ 3) (hW8 : 8 ≤ W) (hW32 : W ≤ 32) (hp : bits .and .u64 p0 ((2 : Int) ^ W - 1) = p) (hq : p * (2 : Int) ^ W = q) (hql : 0 ≤ q ∧ q < 18446744073709551616) (hc : (c == 4) = false)
    (hof : Hid (∀ w, PrW w → Calls Tryz.prog 11 #[.int .i64 id] w fun e w' => e = .returned (.tuple #[.agg #[.int .i64 fk, .int .i64 (W : Nat), .int .i64 fm, .int .i64 fb, .int .u64 ft, .int .u64 fi, .int .u64 fn], .int .i64 0]) ∧ Below w.heap.size w w'))
    (hd1 : Hid (∀ w, PrW w → Calls Tryz.prog 13 #[.int .i64 id, .int .u64 p] w fun e' w' => e' = .returned (.tuple #[.agg #[.int .i64 c, .bool n, .int .u64 (m : Nat), .int .i64 e], .int .i64 0]) ∧ Below w.heap.size w w'))
    (hd2 : Hid (∀ w, PrW w → Calls Tryz.prog 13 #[.int .i64 (id + 1), .int .u64 q] w fun e' w' => e' = .returned (.tuple #[.agg #[.int .i64 c, .bool n, .int .u64 (m : Nat), .int .i64 e], .int .i64 0]) ∧ Below w.heap.size w w'))
    (htu : Hid (∀ w, PrW w → Calls Tryz.prog 14 #[.int .i64 id, .int .i64 (id + 1), .int .i64 2, .int .u64 p] w fun e w' => e = .returned (.tuple #[.int .u64 q, .int .i64 0]) ∧ Below w.heap.size w w'))
    (hf1 : Hid (∀ w, PrW w → Calls Tryz.prog 15 #[.int .i64 id, .int .u64 p] w fun e w' => e = .returned (.tuple #[.string (strL T), .int .i64 0]) ∧ Below w.heap.size w w'))
    (hf2 : Hid (∀ w, PrW w → Calls Tryz.prog 15 #[.int .i64 (id + 1), .int .u64 q] w fun e w' => e = .returned (.tuple #[.string (strL T), .int .i64 0]) ∧ Below w.heap.size w w'))
    (w : World) (hWw : PrW w) : Calls Tryz.prog 3 #[.int .i64 i0, .int .u64 p0] w fun e w' => e = .returned (.bool true) ∧ Below w.heap.size w w' := by
  have hwk := Lib.hid fun w (hW : PrW w) => works_any w hW
  have hmk := Lib.hid fun w => fo_mask fk (W : Int) fm fb ft fi fn w (by omega) (by omega)
  simp only [Int.toNat_natCast] at hmk
  have hL0 := LiveP.start w
  have hadd : 1 + (id - 1) = id := by omega
  go_enter Tryz.func3, Tryz.ntmps3
  go_wp2_with fail
  refine (hwk.out _ hWw).mono ?_
  rintro ex w1 ⟨rfl, hb⟩
  have hL1 := hL0.go hb
  clear hb
  go_wp2_with fail
  refine (hof.out _ (hWw.below hL1.below)).mono ?_
  rintro ex w2 ⟨rfl, hb⟩
  have hL2 := ((hL1.go hb).go ((Below.refl _ _).alloc (Nat.le_refl _) (.cells #[.int .i64 fk, .int .i64 (W : Nat), .int .i64 fm, .int .i64 fb, .int .u64 ft, .int .u64 fi, .int .u64 fn] 25))).put (pBlk_st _ _ _) (pBlk_made w2 #[.int .i64 fk, .int .i64 (W : Nat), .int .i64 fm, .int .i64 fb, .int .u64 ft, .int .u64 fi, .int .u64 fn] 25)
  clear hb
  go_wp2_with fail
  refine (hmk.out _).mono ?_
  rintro ex w3 ⟨rfl, hb⟩
  have hL3 := hL2.go hb
  clear hb
  go_wp2_with fail
  refine (hd1.out _ (hWw.below hL3.below)).mono ?_
  rintro ex w4 ⟨rfl, hb⟩
  have hL4 := ((hL3.go hb).go ((Below.refl _ _).alloc (Nat.le_refl _) (.cells #[.int .i64 c, .bool n, .int .u64 (m : Nat), .int .i64 e] 31))).put (pBlk_st _ _ _) (pBlk_made w4 #[.int .i64 c, .bool n, .int .u64 (m : Nat), .int .i64 e] 31)
  clear hb
  obtain ⟨a0, a1, a2, a3⟩ := cells4R (hL4.get (P := pBlk w4.heap.size #[.int .i64 c, .bool n, .int .u64 (m : Nat), .int .i64 e] 31) (by repeat (first | exact List.mem_cons_self | apply List.mem_cons_of_mem)))
  have f1 := (hL4.get (P := pBlk w2.heap.size #[.int .i64 fk, .int .i64 (W : Nat), .int .i64 fm, .int .i64 fb, .int .u64 ft, .int .u64 fi, .int .u64 fn] 25) (by repeat (first | exact List.mem_cons_self | apply List.mem_cons_of_mem))).cell 1 _ rfl
  have hwq : IntKind.u64.wrap q = q := by rw [wrap_u64]; omega
  go_wp2_with fail
  refine (hd2.out _ (hWw.below hL4.below)).mono ?_
  rintro ex w5 ⟨rfl, hb⟩
  have hL5 := ((hL4.go hb).go ((Below.refl _ _).alloc (Nat.le_refl _) (.cells #[.int .i64 c, .bool n, .int .u64 (m : Nat), .int .i64 e] 31))).put (pBlk_st _ _ _) (pBlk_made w5 #[.int .i64 c, .bool n, .int .u64 (m : Nat), .int .i64 e] 31)
  clear hb a0 a1 a2 a3 f1
  go_wp2_with fail
  refine (htu.out _ (hWw.below hL5.below)).mono ?_
  rintro ex w6 ⟨rfl, hb⟩
  have hL6 := hL5.go hb
  clear hb
  go_wp2_with fail
  refine (hf1.out _ (hWw.below hL6.below)).mono ?_
  rintro ex w7 ⟨rfl, hb⟩
  have hL7 := hL6.go hb
  clear hb
  go_wp2_with fail
  refine (hf2.out _ (hWw.below hL7.below)).mono ?_
  rintro ex w8 ⟨rfl, hb⟩
  have hL8 := hL7.go hb
  clear hb
  obtain ⟨a0, a1, a2, a3⟩ := cells4R (hL8.get (P := pBlk w4.heap.size #[.int .i64 c, .bool n, .int .u64 (m : Nat), .int .i64 e] 31) (by repeat (first | exact List.mem_cons_self | apply List.mem_cons_of_mem)))
  obtain ⟨b0, b1, b2, b3⟩ := cells4R (hL8.get (P := pBlk w5.heap.size #[.int .i64 c, .bool n, .int .u64 (m : Nat), .int .i64 e] 31) (by repeat (first | exact List.mem_cons_self | apply List.mem_cons_of_mem)))
  have f1 := (hL8.get (P := pBlk w2.heap.size #[.int .i64 fk, .int .i64 (W : Nat), .int .i64 fm, .int .i64 fb, .int .u64 ft, .int .u64 fi, .int .u64 fn] 25) (by repeat (first | exact List.mem_cons_self | apply List.mem_cons_of_mem))).cell 1 _ rfl
  go_wp2
  go_ret
  exact ⟨by simp, hL8.below⟩
set_option maxRecDepth 100000 in
set_option maxHeartbeats 4000000 in
theorem posits_nar (i0 p0 id p fk fm fb ft fi fn e : Int) (W : Nat) (n : Bool) (m : Nat)
    (hi : (bits .and .i64 i0 65535).tmod 3 = id - 1) (i1 : 1 ≤ id) (i3 : id ≤ 3) (hW8 : 8 ≤ W) (hW32 : W ≤ 32) (hp : bits .and .u64 p0 ((2 : Int) ^ W - 1) = p)
    (hof : Hid (∀ w, PrW w → Calls Tryz.prog 11 #[.int .i64 id] w fun e w' => e = .returned (.tuple #[.agg #[.int .i64 fk, .int .i64 (W : Nat), .int .i64 fm, .int .i64 fb, .int .u64 ft, .int .u64 fi, .int .u64 fn], .int .i64 0]) ∧ Below w.heap.size w w'))
    (hd1 : Hid (∀ w, PrW w → Calls Tryz.prog 13 #[.int .i64 id, .int .u64 p] w fun e' w' => e' = .returned (.tuple #[.agg #[.int .i64 4, .bool n, .int .u64 (m : Nat), .int .i64 e], .int .i64 0]) ∧ Below w.heap.size w w'))
    (w : World) (hWw : PrW w) : Calls Tryz.prog 3 #[.int .i64 i0, .int .u64 p0] w fun e w' => e = .returned (.bool true) ∧ Below w.heap.size w w' := by
  have hwk := Lib.hid fun w (hW : PrW w) => works_any w hW
  have hmk := Lib.hid fun w => fo_mask fk (W : Int) fm fb ft fi fn w (by omega) (by omega)
  simp only [Int.toNat_natCast] at hmk
  have hL0 := LiveP.start w
  have hadd : 1 + (id - 1) = id := by omega
  go_enter Tryz.func3, Tryz.ntmps3
  go_wp2_with fail
  refine (hwk.out _ hWw).mono ?_
  rintro ex w1 ⟨rfl, hb⟩
  have hL1 := hL0.go hb
  clear hb
  go_wp2_with fail
  refine (hof.out _ (hWw.below hL1.below)).mono ?_
  rintro ex w2 ⟨rfl, hb⟩
  have hL2 := ((hL1.go hb).go ((Below.refl _ _).alloc (Nat.le_refl _) (.cells #[.int .i64 fk, .int .i64 (W : Nat), .int .i64 fm, .int .i64 fb, .int .u64 ft, .int .u64 fi, .int .u64 fn] 25))).put (pBlk_st _ _ _) (pBlk_made w2 #[.int .i64 fk, .int .i64 (W : Nat), .int .i64 fm, .int .i64 fb, .int .u64 ft, .int .u64 fi, .int .u64 fn] 25)
  clear hb
  go_wp2_with fail
  refine (hmk.out _).mono ?_
  rintro ex w3 ⟨rfl, hb⟩
  have hL3 := hL2.go hb
  clear hb
  go_wp2_with fail
  refine (hd1.out _ (hWw.below hL3.below)).mono ?_
  rintro ex w4 ⟨rfl, hb⟩
  have hL4 := ((hL3.go hb).go ((Below.refl _ _).alloc (Nat.le_refl _) (.cells #[.int .i64 4, .bool n, .int .u64 (m : Nat), .int .i64 e] 31))).put (pBlk_st _ _ _) (pBlk_made w4 #[.int .i64 4, .bool n, .int .u64 (m : Nat), .int .i64 e] 31)
  clear hb
  obtain ⟨a0, a1, a2, a3⟩ := cells4R (hL4.get (P := pBlk w4.heap.size #[.int .i64 4, .bool n, .int .u64 (m : Nat), .int .i64 e] 31) (by repeat (first | exact List.mem_cons_self | apply List.mem_cons_of_mem)))
  go_wp2
  go_ret
  exact ⟨rfl, hL4.below⟩
theorem topPosits_any (i0 p0 : Int) (hp0 : 0 ≤ p0) (hp1 : p0 < 18446744073709551616) (w : World) (hW : PrW w) :
    Calls Tryz.prog 3 #[.int .i64 i0, .int .u64 p0] w fun e w' => e = .returned (.bool true) ∧ Below w.heap.size w w' := by
  obtain ⟨r, hr, hr2⟩ := and_low i0
  obtain ⟨id, hid⟩ : ∃ id : Int, id = 1 + ((r % 3 : Nat) : Int) := ⟨_, rfl⟩
  have i1 : 1 ≤ id := by omega
  have i3 : id ≤ 3 := by omega
  have hi : (bits .and .i64 i0 65535).tmod 3 = id - 1 := by
    rw [hr, Int.tmod_eq_emod_of_nonneg (by omega)]
    omega
  obtain ⟨n1, n2, n3, n4, n5, n6, n7, n8, n9⟩ := posit_next i1 i3
  obtain ⟨W, hWd⟩ : ∃ W, (fW id).toNat = W := ⟨_, rfl⟩
  have hfw : fW id = (W : Int) := by have := (ft_bounds id).1; omega
  rw [hWd] at n8 n9
  obtain ⟨p, hp⟩ : ∃ p, bits .and .u64 p0 ((2 : Int) ^ W - 1) = p := ⟨_, rfl⟩
  have hpm := mask_mod p0 W (by omega) hp0 hp1
  rw [hp] at hpm
  have hpos : (0 : Int) < 2 ^ W := Int.pow_pos (by decide)
  have hpl : 0 ≤ p := by rw [hpm]; exact Int.emod_nonneg _ (by omega)
  have hpu : p < 2 ^ W := by rw [hpm]; exact Int.emod_lt_of_pos _ hpos
  have hpf : p < 2 ^ (fW id).toNat := by rw [hWd]; exact hpu
  have hof := fun w (hW : PrW w) => fo_of id w hW.va.frm i1 (show id < 15 by omega)
  have hd1 := fun w (hW : PrW w) => vdec_yes id p i1 (show id < 15 by omega) hpl hpf w hW.va
  rw [hfw] at hof
  by_cases hc : classV id p = 4
  · rw [hc] at hd1
    exact posits_nar i0 p0 id p _ _ _ _ _ _ _ W _ _ hi i1 i3 n8 n9 hp (Lib.hid hof) (Lib.hid hd1) w hW
  · obtain ⟨v1, v2, v3, v4, v5⟩ := next_value i1 i3 hpl hpf hc
    obtain ⟨c1, c2, c3, c4, c5⟩ := next_parts i1 i3 hpl hpf
    have hf : fitsV id p = 0 := by unfold fitsV; rw [if_neg (by omega), if_pos hpf]
    rw [hWd] at v1 v2 v3 v4 v5 c1 c4 c5
    obtain ⟨q, hq⟩ : ∃ q, p * 2 ^ W = q := ⟨_, rfl⟩
    rw [hq] at v1 v2 v3 v4 v5 c1 c4 c5
    obtain ⟨f1, f2, f3⟩ := fits_two c4
    have hqb : q < 18446744073709551616 := by
      have h64 : (2 : Int) ^ (fW (id + 1)).toNat ≤ 2 ^ 64 := by
        have h : (2 : Nat) ^ (fW (id + 1)).toNat ≤ 2 ^ 64 := Nat.pow_le_pow_right (by decide) (by have := (ft_bounds (id + 1)).2.1; omega)
        exact_mod_cast h
      have : (2 : Int) ^ 64 = 18446744073709551616 := by decide
      omega
    have hpb : p < 18446744073709551616 := by
      have : p ≤ q := by
        have h := Int.mul_le_mul_of_nonneg_left (show (1 : Int) ≤ 2 ^ W by omega) hpl
        rw [Int.mul_one, hq] at h
        exact h
      omega
    have hd2 := fun w (hW : PrW w) => vdec_yes (id + 1) q f1 f2 c5 f3 w hW.va
    rw [c1, v1, v2, v3] at hd2
    have htu := fun w (hW : PrW w) => turn_any id (id + 1) 2 p hpl hf f1 f2 (.inr rfl) w hW.va
    rw [v4] at htu
    have hf1 := fun w (hW : PrW w) => pfull_any id p hpl hpb w hW
    have hf2 := fun w (hW : PrW w) => pfull_any (id + 1) q c5 hqb w hW
    rw [hf] at hf1
    rw [c4, v5] at hf2
    exact posits_main i0 p0 id p q _ _ _ _ _ _ _ _ W _ _ _ hi i1 i3 n8 n9 hp hq ⟨c5, hqb⟩ (by simp [hc]) (Lib.hid hof) (Lib.hid hd1) (Lib.hid hd2) (Lib.hid htu) (Lib.hid hf1) (Lib.hid hf2) w hW
end Go.Proofs.YtehpneojiinmdaaGreatDoor
