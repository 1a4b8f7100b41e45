/- Rounding: the boundaries, walked. Conditions: the variables that values read. -/
/- Exact numbers: Floor, walked. Conditions: none. -/
/- Rounding: is a size to be rounded to a magnitude or a lesser one, walked. Conditions: the variables that values read. -/
/- Rounding: the nearest magnitude, walked. Conditions: the variables that values read. -/
/- Plain: the interval of a pattern's sizes; its own number lies in it; digits that lie in it are rounded to the pattern. Conditions: none. -/
/- Plain: the greatest power of ten that is not above a number, by steps from above. Conditions: none. -/
import Derived.Test.YtncfbleeidjflaaGreatDoorPz29
import Derived.Test.YtncfbleeidjflaaGreatDoorPz21
import Derived.Test.YtncfbleeidjflaaGreatDoorPz02
import Derived.Deep.LoopGhost
namespace Go.Proofs.YtncfbleeidjflaaGreatDoor
open Go.RowKit Go.Cal
theorem exact_size : (Tryz.prog.info? 71).map (·.size) = some 4 := by kernel_rfl
theorem cells4 {w : World} {g : Nat} {a b c d : Value} {t : TypeId} (hp : pBlk g #[a, b, c, d] t w) :
    w.cell? ⟨g, 0, none⟩ = some a ∧ w.cell? ⟨g, 1, none⟩ = some b ∧ w.cell? ⟨g, 2, none⟩ = some c ∧ w.cell? ⟨g, 3, none⟩ = some d :=
  ⟨hp.cell 0 _ rfl, hp.cell 1 _ rfl, hp.cell 2 _ rfl, hp.cell 3 _ rfl⟩
theorem noU : ∀ x ∈ (#[.bool false, .slice none 0 0, .int .i64 0, .int .i64 0] : Array Value).toList, ∀ n, x ≠ .int .u64 n := by simp
set_option maxRecDepth 100000 in
set_option maxHeartbeats 1000000 in
theorem rsize_any (m : Nat) (t : Int) (h0 : 0 < m) (hm : m < 18446744073709551616) (ht : -5000 ≤ t ∧ t ≤ 5000) (w : World) :
    Calls Tryz.prog 181 #[.int .u64 m, .int .i64 t] w fun e w' => ∃ A n c, e = .returned (.agg #[.bool false, .slice A n c, .int .i64 t, .int .i64 0]) ∧ IsT w' (.slice A n c) 128 m ∧ Below w.heap.size w w' := by
  have hof := Lib.hid fun w' => xof_fin false m t hm ht w'
  have hm0 : ((m : Int) == 0) = false := by simp; omega
  go_enter Tryz.func181, Tryz.ntmps181
  go_wp2_with fail
  refine (hof.out _).mono ?_
  rintro e w1 ⟨A, n, c, rfl, hv, hb⟩
  have hz := hb.size
  simp at hz
  have hB : Below w.heap.size w w1 := ((Below.refl _ _).alloc (Nat.le_refl _) _).trans (hb.mono (by simp))
  have hp0 := pBlk_st _ _ _ _ _ (pBlk_st _ _ _ _ _ (pBlk_made w #[.bool false, .slice none 0 0, .int .i64 0, .int .i64 0] 71) hb) ((Below.refl _ _).alloc (Nat.le_refl _) (.cells #[.bool false, .slice none 0 0, .int .i64 0, .int .i64 0] 71))
  have hv0 := hv.below ((Below.refl _ _).alloc (Nat.le_refl _) (.cells #[.bool false, .slice none 0 0, .int .i64 0, .int .i64 0] 71))
  go_wp2_with (first
    | ((with_reducible show wpList _ _ _ (Oper.mk _ (Op.store 71 _ _) _ _ _ _ :: _) _ _); refine wpList_store_keep _ rfl 71 _ _ rfl w1.heap.size #[.bool false, .slice A n c, .int .i64 t, .int .i64 0] #[.bool false, .slice none 0 0, .int .i64 0, .int .i64 0] 71 rfl rfl (pBlk_made w1 #[.bool false, .slice none 0 0, .int .i64 0, .int .i64 0] 71) exact_size rfl (by simp [Value.oneCell']) noU ?_; intro w2 hp2 hb2 hk2; obtain ⟨r0, r1, r2, r3⟩ := cells4 hp2; have hq := pBlk_keep hp0 hb2 (by omega); have hv2 := hk2 _ _ _ hv0)
    | ((with_reducible show wpList _ _ _ (Oper.mk _ (Op.store 71 _ _) _ _ _ _ :: _) _ _); refine wpList_store_keep _ rfl 71 _ _ rfl w.heap.size #[.bool false, .slice A n c, .int .i64 t, .int .i64 0] #[.bool false, .slice none 0 0, .int .i64 0, .int .i64 0] 71 rfl rfl hq exact_size rfl (by simp [Value.oneCell']) noU ?_; intro w3 hp3 hb3 hk3; obtain ⟨s0, s1, s2, s3⟩ := cells4 hp3; have hv3 := hk3 _ _ _ hv2))
  have hB3 : Below w.heap.size w w3 := ((hB.alloc hB.size _).trans (hb2.mono hB.size)).trans hb3
  exact bodyPost_ret (v := .agg #[.bool false, .slice A n c, .int .i64 t, .int .i64 0]) (by simp [results, Tryz.results181, go_sem, s0, s1, s2, s3]) rfl ⟨A, n, c, rfl, hv3, hB3⟩
theorem numQ_bnd {kd wd mn bs j more : Nat} (hm : more ≤ 1) (h0 : 0 < j) (hj : j < 18446744073709551616) (hw : kd = 1 → wd + more - 1 ≤ 64 ∧ j < 2 ^ (wd + more - 1)) (hn : mn ≤ 52) (h2 : kd = 2 → j / 2 ^ (mn + more) ≤ 4095) (h4 : kd ≠ 1 → kd ≠ 2 → kd ≠ 3 → j < 4000) :
    0 < (numQ kd wd mn bs more j).1 ∧ (numQ kd wd mn bs more j).1 < 18446744073709551616 ∧ (numQ kd wd mn bs more j).2 ≤ 4200 := by
  unfold numQ
  by_cases k1 : kd = 1
  · rw [if_pos k1]
    obtain ⟨a, b⟩ := hw k1
    obtain ⟨f1, f2⟩ := poF_bnd (poL (wd + more - 1) j) (j % 2 ^ poL (wd + more - 1) j)
    have hL := poL_le b
    have hR := poR_ge b
    have hE := poE_lt (Nat.mod_lt j (Nat.two_pow_pos (poL (wd + more - 1) j)))
    have hp := Nat.two_pow_pos (poL (wd + more - 1) j - 2)
    have hp2 : 2 ^ (poL (wd + more - 1) j - 2) ≤ 2 ^ 62 := Nat.pow_le_pow_right (by decide) (by omega)
    refine ⟨by simp only; omega, by simp only; omega, by simp only; omega⟩
  · rw [if_neg k1]
    by_cases k2 : kd = 2
    · rw [if_pos k2]
      have hM := miM_lt (mn + more) j
      have hP := miM_pos (man := mn + more) h0
      have hp2 : 2 ^ (mn + more + 1) ≤ 2 ^ 54 := Nat.pow_le_pow_right (by decide) (by omega)
      have hE : miE (mn + more) j = max (j / 2 ^ (mn + more)) 1 := rfl
      have := h2 k2
      refine ⟨by simp only; omega, by simp only; omega, by simp only; omega⟩
    · rw [if_neg k2]
      by_cases k3 : kd = 3
      · rw [if_pos k3]
        refine ⟨h0, hj, by simp only; omega⟩
      · rw [if_neg k3]
        have := h4 k1 k2 k3
        have hd : j / 2 ^ more ≤ j := Nat.div_le_self _ _
        refine ⟨by simp only; omega, by simp only; omega, ?_⟩
        simp only
        generalize j / 2 ^ more = q at hd ⊢
        omega
theorem oddP_bnd {m : Nat} {e : Int} (h0 : 0 < m) (hm : m < 18446744073709551616) : 0 < (oddP 64 m e).1 ∧ (oddP 64 m e).1 < 18446744073709551616 ∧ e ≤ (oddP 64 m e).2 ∧ (oddP 64 m e).2 ≤ e + 64 := by
  have h1 := tzN_lt 64 m h0 (by omega)
  have h2 := tzN_div 64 m
  unfold oddP
  rw [if_neg (by omega)]
  refine ⟨?_, ?_, by simp only; omega, by simp only; omega⟩
  · rcases Nat.eq_zero_or_pos (m / 2 ^ tzN 64 m) with h3 | h3
    · rw [h3] at h2; omega
    · exact h3
  · exact Nat.lt_of_le_of_lt (Nat.div_le_self _ _) hm
theorem fK_nat (id : Int) : (fK id).toNat = 1 ∧ fK id = 1 ∨ (fK id).toNat = 2 ∧ fK id = 2 ∨ (fK id).toNat = 3 ∧ fK id = 3 ∨ (fK id).toNat = 4 ∧ fK id = 4 := by
  have := fK_bnd id
  omega
theorem scale_top {id : Int} (h1 : 1 ≤ id) (h2 : id < 15) (h : fK id = 4) : fitM id = 254 := by
  rcases id_cases h1 h2 with rfl | rfl | rfl | rfl | rfl | rfl | rfl | rfl | rfl | rfl | rfl | rfl | rfl | rfl <;> first | rfl | (exact absurd h (by decide))
theorem mag_range {id : Int} {key : Nat} (h1 : 1 ≤ id) (h2 : id < 15) (hk : (key : Int) ≤ fitM id) : 0 < (magV id 1 (2 * key + 1)).1 ∧ (magV id 1 (2 * key + 1)).1 < 18446744073709551616 ∧ -5000 ≤ (magV id 1 (2 * key + 1)).2 ∧ (magV id 1 (2 * key + 1)).2 ≤ 5000 ∧
    0 ≤ (2000 : Int) + (magV id 1 (2 * key + 1)).2 ∧ (magV id 1 (2 * key + 1)).1 * 2 ^ ((2000 : Int) + (magV id 1 (2 * key + 1)).2).toNat = uN (fK id).toNat (fW id).toNat (fM id).toNat (fB id).toNat (2 * key + 1) := by
  obtain ⟨w1, w2, w3, w4, -⟩ := fo_wide h1 h2
  obtain ⟨k0, kw, k1, k2, k4⟩ := mag_half h1 h2 hk
  have hKn := fK_nat id
  obtain ⟨b1, b2, b3⟩ := numQ_bnd (kd := (fK id).toNat) (wd := (fW id).toNat) (mn := (fM id).toNat) (bs := (fB id).toNat) (j := 2 * key + 1) (more := 1) (by decide) (by omega) kw
    (fun h => ⟨by omega, (k1 (by omega)).2⟩) w3 (fun h => k2 (by omega)) (fun h3 h4 h5 => by have := scale_top h1 h2 (by omega); omega)
  obtain ⟨c1, c2⟩ := numQ_one (fK id).toNat (fW id).toNat (fM id).toNat (fB id).toNat (2 * key + 1) (by omega) (fun h => ⟨by omega, by omega, by have := (k1 (by omega)).2; rw [show (fW id).toNat + 1 - 1 = (fW id).toNat by omega] at this; exact this⟩) (by omega)
  obtain ⟨d1, d2, d3, d4⟩ := oddP_bnd (e := (numQ (fK id).toNat (fW id).toNat (fM id).toNat (fB id).toNat 1 (2 * key + 1)).2) b1 b2
  have hv := oddP_val (f := 64) (m := (numQ (fK id).toNat (fW id).toNat (fM id).toNat (fB id).toNat 1 (2 * key + 1)).1) (K := 2000) (e := (numQ (fK id).toNat (fW id).toNat (fM id).toNat (fB id).toNat 1 (2 * key + 1)).2) c1
  refine ⟨d1, d2, ?_, ?_, ?_, ?_⟩
  · show -5000 ≤ (oddP 64 _ _).2
    omega
  · show (oddP 64 _ _).2 ≤ 5000
    omega
  · show 0 ≤ (2000 : Int) + (oddP 64 _ _).2
    omega
  · exact hv.trans c2
set_option maxRecDepth 100000 in
set_option maxHeartbeats 1000000 in
theorem behind_any (id : Int) (h1 : 1 ≤ id) (h2 : id < 15) (key : Nat) (hk : (key : Int) ≤ fitM id) (w : World) (hW : VaW w) :
    Calls Tryz.prog 146 #[.int .i64 id, .int .u64 key] w fun e w' => ∃ A n c, e = .returned (.agg #[.bool false, .slice A n c, .int .i64 (magV id 1 (2 * key + 1)).2, .int .i64 0]) ∧ IsT w' (.slice A n c) 128 (magV id 1 (2 * key + 1)).1 ∧ Below w.heap.size w w' := by
  obtain ⟨a1, a2, a3, a4, -, -⟩ := mag_range h1 h2 hk
  have hbt := fun w hW => vbetween_any id h1 h2 key hk w hW
  generalize magV id 1 (2 * key + 1) = p at hbt a1 a2 a3 a4 ⊢
  obtain ⟨m, t⟩ := p
  have hrs := Lib.hid fun w => rsize_any m t a1 a2 ⟨a3, a4⟩ w
  replace hbt := Lib.hid hbt
  clear a1 a2 a3 a4
  go_enter Tryz.func146, Tryz.ntmps146
  go_wp2_with fail
  refine (hbt.out _ (hW.below ((Below.refl _ _).alloc (Nat.le_refl _) _))).mono ?_
  rintro e w1 ⟨rfl, hb⟩
  go_wp2_with fail
  refine (hrs.out _).mono ?_
  rintro e w2 ⟨A, n, c, rfl, hv, hb2⟩
  have hp0 := pBlk_st _ _ _ _ _ (pBlk_st _ _ _ _ _ (pBlk_made w #[.bool false, .slice none 0 0, .int .i64 0, .int .i64 0] 71) hb) hb2
  have hB : Below w.heap.size w w2 := (((Below.refl _ _).alloc (Nat.le_refl _) _).trans (hb.mono (by simp))).trans (hb2.mono (by have := hb.size; simp at this; omega))
  go_wp2_with ((with_reducible show wpList _ _ _ (Oper.mk _ (Op.store 71 _ _) _ _ _ _ :: _) _ _); refine wpList_store_keep _ rfl 71 _ _ rfl w.heap.size #[.bool false, .slice A n c, .int .i64 t, .int .i64 0] #[.bool false, .slice none 0 0, .int .i64 0, .int .i64 0] 71 rfl rfl hp0 exact_size rfl (by simp [Value.oneCell']) noU ?_; intro w3 hp3 hb3 hk3; obtain ⟨s0, s1, s2, s3⟩ := cells4 hp3; have hv3 := hk3 _ _ _ hv)
  exact bodyPost_ret (v := .agg #[.bool false, .slice A n c, .int .i64 t, .int .i64 0]) (by simp [results, Tryz.results146, go_sem, s0, s1, s2, s3]) rfl ⟨A, n, c, rfl, hv3, hB.trans hb3⟩
end Go.Proofs.YtncfbleeidjflaaGreatDoor
namespace Go.Proofs.YtncfbleeidjflaaGreatDoor
open Go.RowKit Go.Cal
theorem of_one (w : World) : Calls Tryz.prog 96 #[.int .u64 1] w (TellsT w 1 1) := of_t w 1 (by decide)
theorem of_ten (w : World) : Calls Tryz.prog 96 #[.int .u64 10] w (TellsT w 1 10) := of_t w 10 (by decide)
theorem flB_pos (e k : Int) : 0 < flB e k := exP_pos _ _ (by decide)
set_option maxRecDepth 100000 in
set_option maxHeartbeats 2000000 in
theorem xfloor_any {w : World} {A : Option Addr} {n c N : Nat} (m : Nat) (hm : 12178 ≤ m) (hmm : m ≤ 1048575) (neg : Bool) (t k : Int) (h : IsT w (.slice A n c) 128 N) (ht : -5000 ≤ t ∧ t ≤ 5000) (hk : -5000 ≤ k ∧ k ≤ 5000) :
    Calls Tryz.prog 149 #[.agg #[.bool neg, .slice A n c, .int .i64 t, .int .i64 0], .int .i64 k] w fun e w' => ∃ v, e = .returned (.tuple #[v, .int .i64 (flR N t k)]) ∧ IsT w' v m (flQ N t k) ∧ Below w.heap.size w w' := by
  have hm1 : max k (-5000) = k := by omega
  have hm2 : min k 5000 = k := by omega
  have hb0 := (Below.refl w.heap.size w).alloc (Nat.le_refl _) (.cells #[.bool neg, .slice A n c, .int .i64 t, .int .i64 0] 71)
  have hL := (((LiveP.start w).go hb0).put (pBlk_st _ _ _) (pBlk_made w #[.bool neg, .slice A n c, .int .i64 t, .int .i64 0] 71)).put (pT_st (.slice A n c) 128 N) (h.below hb0)
  have hA : exP N (t - k) (-k) = flA N t k := rfl
  have hB : exP 1 (k - t) k = flB t k := rfl
  have hBp := flB_pos t k
  have hQ : flA N t k / flB t k = flQ N t k := rfl
  have hR : flR N t k = if flA N t k % flB t k = 0 then 0 else 2 + cmpV ((2 * (flA N t k % flB t k) : Nat) : Int) ((flB t k : Nat) : Int) := rfl
  obtain ⟨ht1, ht2⟩ := ht
  obtain ⟨hk1, hk2⟩ := hk
  rw [hR]
  generalize flA N t k = a at hA hQ ⊢
  generalize flB t k = b at hB hQ hBp ⊢
  generalize flQ N t k = q at hQ ⊢
  clear hR h hb0
  have hng : -(t - k) = k - t := by omega
  have hsB := fun (W : World) (v : Value) (h : IsN W v 1 1) => xscaled_any m hm (-(t - k)) k (h.more (by decide)) (by omega) (by omega)
  rw [hng, hB] at hsB
  replace hsB := Lib.hid hsB
  have hsA := fun (W : World) (h : IsN W (.slice A n c) 128 N) => xscaled_any m hm (t - k) (-k) h (by omega) (by omega)
  rw [hA] at hsA
  replace hsA := Lib.hid hsA
  clear hng
  replace hA := Lib.hid hA
  replace hB := Lib.hid hB
  replace hQ := Lib.hid hQ
  obtain ⟨fr, hfr⟩ : ∃ fr : Int, (if a % b = 0 then (0 : Int) else 2 + cmpV ((2 * (a % b) : Nat) : Int) ((b : Nat) : Int)) = fr := ⟨_, rfl⟩
  rw [hfr]
  replace hfr := Lib.hid hfr
  have hX := pBlk_made w #[.bool neg, .slice A n c, .int .i64 t, .int .i64 0] 71
  go_enter Tryz.func149, Tryz.ntmps149
  go_wp2_with fail
  go_quiet (fail)
  replace hL := hL.go (below_drewN _ nq)
  go_wp2_with fail
  refine (of_one _).mono ?_
  rintro e w1 ⟨v1, rfl, hv1, hb1⟩
  replace hL := (hL.go hb1).put (pT_st v1 1 1) hv1
  clear hb1 hv1
  go_wp2_with fail
  rw [show -(t - k) = k - t by omega]
  refine (hsB.out _ _ (IsT.isN (hL.get (P := pT v1 1 1) (by repeat (first | exact List.mem_cons_self | apply List.mem_cons_of_mem))))).mono ?_
  rintro e w2 ⟨v2, rfl, hv, hb⟩
  replace hL := (hL.go hb).put (pT_st _ _ _) hv
  clear hb hv
  obtain ⟨r0, r1, r2, r3⟩ := cells4 (hL.get (P := pBlk w.heap.size #[.bool neg, .slice A n c, .int .i64 t, .int .i64 0] 71) (by repeat (first | exact List.mem_cons_self | apply List.mem_cons_of_mem)))
  go_wp2_with fail
  refine (hsA.out _ (IsT.isN (hL.get (P := pT (.slice A n c) 128 N) (by repeat (first | exact List.mem_cons_self | apply List.mem_cons_of_mem))))).mono ?_
  rintro e w3 ⟨v3, rfl, hv, hb⟩
  replace hL := (hL.go hb).put (pT_st _ _ _) hv
  clear hb hv r0 r1 r2 r3
  go_wp2_with fail
  refine (div_t (IsT.isN (hL.get (P := pT v3 m a) (by repeat (first | exact List.mem_cons_self | apply List.mem_cons_of_mem)))) (IsT.isN (hL.get (P := pT v2 m b) (by repeat (first | exact List.mem_cons_self | apply List.mem_cons_of_mem)))) (by omega) (by omega) hBp).mono ?_
  rintro e w4 ⟨v4, v5, rfl, hq, hr, hb⟩
  replace hL := ((hL.go hb).put (pT_st _ _ _) hq).put (pT_st _ _ _) hr
  clear hb hq hr
  rw [hQ.out] at hL
  go_wp2_with fail
  refine (bits_b (hL.get (P := pT v5 m (a % b)) (by repeat (first | exact List.mem_cons_self | apply List.mem_cons_of_mem))) (by omega)).mono ?_
  rintro e w5 ⟨rfl, hb⟩
  replace hL := hL.go hb
  clear hb
  by_cases h0 : a % b = 0
  · have hf := hfr.out
    rw [if_pos h0] at hf
    rw [h0]
    have hb0 : (((blen 0 : Nat) : Int) == 0) = true := by decide +kernel
    go_wp2
    go_ret2
    subst hf
    exact ⟨_, rfl, hL.get (P := pT v4 m q) (by repeat (first | exact List.mem_cons_self | apply List.mem_cons_of_mem)), hL.below⟩
  · have hf := hfr.out
    rw [if_neg h0] at hf
    obtain ⟨r, hr⟩ : ∃ r, a % b = r := ⟨_, rfl⟩
    rw [hr] at hL h0 hf ⊢
    replace hf := Lib.hid hf
    have hbl : ((blen r : Nat) : Int) ≠ 0 := by
      have := (blen_bnd (N := r) (by omega)).1
      intro h
      have h2 : blen r = 0 := by omega
      rw [h2] at this
      simp at this
      omega
    have hbl' : (((blen r : Nat) : Int) == 0) = false := by simpa using hbl
    replace hr := Lib.hid hr
    go_wp2_with fail
    refine (shl_t 1 (m + 1) (2 * r) (IsT.isN (hL.get (P := pT v5 m r) (by repeat (first | exact List.mem_cons_self | apply List.mem_cons_of_mem)))) (by omega) (by rw [Nat.mul_comm]; rfl) (by
      have := (IsT.isN (hL.get (P := pT v5 m r) (by repeat (first | exact List.mem_cons_self | apply List.mem_cons_of_mem)))).lt
      rw [Nat.pow_succ]
      have h64 : 2 ≤ 18446744073709551616 := by decide
      rw [Nat.mul_comm]
      exact Nat.mul_lt_mul_of_lt_of_le this h64 (by decide))).mono ?_
    rintro e w6 ⟨v6, rfl, hv, hb⟩
    replace hL := (hL.go hb).put (pT_st _ _ _) hv
    clear hb hv
    go_wp2_with fail
    refine (cmp_t (IsT.isN (hL.get (P := pT v6 (m + 1) (2 * r)) (by repeat (first | exact List.mem_cons_self | apply List.mem_cons_of_mem)))) (IsT.isN (hL.get (P := pT v2 m b) (by repeat (first | exact List.mem_cons_self | apply List.mem_cons_of_mem)))) (by omega) (by omega)).mono ?_
    rintro e w7 ⟨rfl, hb⟩
    replace hL := hL.go hb
    clear hb
    obtain ⟨cv, hcv⟩ : ∃ cv, cmpV ((2 * r : Nat) : Int) ((b : Nat) : Int) = cv := ⟨_, rfl⟩
    have hcb : -1 ≤ cv ∧ cv ≤ 1 := by
      rw [← hcv]
      rcases cmpV_cases ((2 * r : Nat) : Int) ((b : Nat) : Int) with ⟨_, h⟩ | ⟨_, h⟩ | ⟨_, h⟩ <;> rw [h] <;> decide
    have hf2 := hf.out
    rw [hcv] at hf2 ⊢
    obtain ⟨hcb1, hcb2⟩ := hcb
    subst hf2
    go_wp2
    go_ret2
    exact ⟨_, rfl, hL.get (P := pT v4 m q) (by repeat (first | exact List.mem_cons_self | apply List.mem_cons_of_mem)), hL.below⟩
end Go.Proofs.YtncfbleeidjflaaGreatDoor
namespace Go.Proofs.YtncfbleeidjflaaGreatDoor
open Go.RowKit Go.Cal
section
variable {w W W' : World} {neg : Bool} {A : Option Addr} {n c N : Nat} {t f : Int}
end
theorem wi_cases {id : Int} {key m : Nat} {e : Int} (N : Nat) (t f : Int) (he : 0 ≤ (2000 : Int) + e) (hm : m * 2 ^ ((2000 : Int) + e).toNat = uN (fK id).toNat (fW id).toNat (fM id).toNat (fB id).toNat (2 * key + 1)) :
    (exC N t f m e 0 = -1 ∧ wiF id (exP N t f) (exQ t f) key = true) ∨ (exC N t f m e 0 = 0 ∧ wiF id (exP N t f) (exQ t f) key = (key % 2 == 0)) ∨ (exC N t f m e 0 = 1 ∧ wiF id (exP N t f) (exQ t f) key = false) := by
  obtain ⟨a, b⟩ := exC_wi (kd := (fK id).toNat) (wd := (fW id).toNat) (mn := (fM id).toNat) (bs := (fB id).toNat) (key := key) (N := N) (t := t) (f := f) he hm
  have hc : exC N t f m e 0 = -1 ∨ exC N t f m e 0 = 0 ∨ exC N t f m e 0 = 1 := by
    unfold exC
    rcases cmpV_cases ((exP N t f * exQ e 0 : Nat) : Int) ((exP m e 0 * exQ t f : Nat) : Int) with ⟨_, h⟩ | ⟨_, h⟩ | ⟨_, h⟩ <;> rw [h] <;> decide
  unfold wiF wiN
  rcases hc with h | h | h
  · refine .inl ⟨h, ?_⟩
    rw [decide_eq_true (a.1 (by omega))]; rfl
  · refine .inr (.inl ⟨h, ?_⟩)
    rw [decide_eq_true (b.1 h), decide_eq_false (fun h' => by have := a.2 h'; omega)]
    simp
  · refine .inr (.inr ⟨h, ?_⟩)
    rw [decide_eq_false (fun h' => by have := a.2 h'; omega), decide_eq_false (fun h' => by have := b.2 h'; omega)]
    rfl
end Go.Proofs.YtncfbleeidjflaaGreatDoor
namespace Go.Proofs.YtncfbleeidjflaaGreatDoor
open Go.RowKit Go.Cal
theorem most_fit {id : Int} {neg : Bool} (he : mostE id neg = 0) : mostV id neg ≤ fitM id ∧ mostR id neg = mostV id neg := by
  have h1 : mostR id neg = mostV id neg := by unfold mostR; rw [if_pos he]
  refine ⟨?_, h1⟩
  unfold mostV fitM
  by_cases h3 : fK id = 3
  · rw [if_pos h3]; split <;> omega
  · rw [if_neg h3, if_neg (fun h => h3 h.2)]
    exact Int.le_refl _
end Go.Proofs.YtncfbleeidjflaaGreatDoor
namespace Go.Proofs.YtncfbleeidjflaaGreatDoor
open Go.RowKit Go.Cal
def limF (id : Int) : Nat := if fK id = 1 then 2 else 1
def limH (id : Int) (neg : Bool) (key : Nat) : Bool := decide ((key : Int) < mostV id neg) || decide (fK id ≠ 1 ∧ (fI id ≠ 0 ∨ fN id ≠ 0))
/-- What Limits tells. -/
def limV (id : Int) (neg : Bool) (key : Nat) : Itv :=
  ⟨if limF id ≤ key then (magV id 1 (2 * (key - 1) + 1)).1 else 0, if limF id ≤ key then (magV id 1 (2 * (key - 1) + 1)).2 else 0,
   if limH id neg key = true then (magV id 1 (2 * key + 1)).1 else 0, if limH id neg key = true then (magV id 1 (2 * key + 1)).2 else 0, key % 2 == 0⟩
theorem large_noH {id mode : Int} {neg : Bool} {key : Nat} (hk : (key : Int) ≤ mostV id neg) (h : limH id neg key = false) : (key : Int) = mostV id neg ∧ largeV id mode neg = patV id neg (mostV id neg) := by
  unfold limH at h
  simp only [Bool.or_eq_false_iff, decide_eq_false_iff_not] at h
  refine ⟨by omega, ?_⟩
  unfold largeV
  rw [if_pos]
  by_cases h1 : fK id = 1
  · exact .inr (.inl h1)
  · exact .inr (.inr ⟨Classical.byContradiction fun hi => h.2 ⟨h1, .inl hi⟩, Classical.byContradiction fun hi => h.2 ⟨h1, .inr hi⟩⟩)
/-- Digits that lie in the interval are rounded to its magnitude. -/
theorem itv_round {id mode : Int} {neg : Bool} {key d : Nat} {k : Int} (hE : mostE id neg = 0) (hk : (key : Int) ≤ mostV id neg) (hk1 : fK id = 1 → 0 < key) (hh : itvHas (limV id neg key) d k = true) :
    roundP id mode neg (exP d k k) (exQ k k) = patV id neg key := by
  obtain ⟨h1, h2, h3⟩ := mostE_zero hE
  have hf := (most_fit hE).1
  have hd := itv_pos hh
  unfold itvHas at hh
  rw [Bool.and_eq_true] at hh
  obtain ⟨hl, hr⟩ := hh
  have hq := exQ_pos k k
  refine round_at hE hq (exP_pos _ _ hd) hk hk1 ?_ ?_
  · by_cases hF : limF id ≤ key
    · right
      have e1 : (limV id neg key).lowN = (magV id 1 (2 * (key - 1) + 1)).1 := if_pos hF
      have e2 : (limV id neg key).lowT = (magV id 1 (2 * (key - 1) + 1)).2 := if_pos hF
      have hF1 : 1 ≤ key := by unfold limF at hF; split at hF <;> omega
      obtain ⟨m1, -, -, -, m5, m6⟩ := mag_range (key := key - 1) h1 h2 (by omega)
      rw [e1, e2] at hl
      obtain ⟨x1, x2⟩ := exC_wi (N := d) (t := k) (f := k) m5 m6
      have hw : wiF id (exP d k k) (exQ k k) (key - 1) = false := by
        unfold wiF wiN
        rw [Bool.or_eq_false_iff]
        rw [Bool.or_eq_true, decide_eq_true_eq] at hl
        rcases hl with hl | hl
        · refine ⟨?_, ?_⟩
          · rw [decide_eq_false_iff_not]; intro h; have := x1.2 h; omega
          · rw [Bool.and_eq_false_iff]; left; rw [decide_eq_false_iff_not]; intro h; have := x2.2 h; omega
        · simp only [Bool.and_eq_true, beq_iff_eq] at hl
          have hev : key % 2 = 0 := by
            have := hl.1.2
            unfold limV at this
            simpa using this
          refine ⟨?_, ?_⟩
          · rw [decide_eq_false_iff_not]; intro h; have := x1.2 h; omega
          · rw [Bool.and_eq_false_iff]; right; simp; omega
      intro i hi
      have := @wiF_mono id neg h1 h2 (exP d k k) (exQ k k) i (key - 1) hq (by omega) (by omega)
      cases hv : wiF id (exP d k k) (exQ k k) i with
      | false => rfl
      | true => rw [this hv] at hw; cases hw
    · unfold limF at hF
      by_cases k1 : fK id = 1
      · rw [if_pos k1] at hF
        left
        exact ⟨k1, by have := hk1 k1; omega⟩
      · rw [if_neg k1] at hF
        right; intro i hi; omega
  · by_cases hH : limH id neg key = true
    · left
      have e1 : (limV id neg key).highN = (magV id 1 (2 * key + 1)).1 := if_pos hH
      have e2 : (limV id neg key).highT = (magV id 1 (2 * key + 1)).2 := if_pos hH
      obtain ⟨m1, -, -, -, m5, m6⟩ := mag_range (key := key) h1 h2 (by omega)
      rw [e1, e2, if_pos m1] at hr
      obtain ⟨x1, x2⟩ := exC_wi (N := d) (t := k) (f := k) m5 m6
      unfold wiF wiN
      rw [Bool.or_eq_true] at hr ⊢
      rcases hr with hr | hr
      · left; rw [decide_eq_true_eq] at hr ⊢; exact x1.1 hr
      · right
        rw [Bool.and_eq_true, beq_iff_eq] at hr
        rw [Bool.and_eq_true, decide_eq_true_eq]
        refine ⟨x2.1 hr.1, ?_⟩
        have := hr.2
        unfold limV at this
        simpa using this
    · right
      exact large_noH hk (by simpa using hH)
theorem uN_top {id : Int} (h1 : 1 ≤ id) (h2 : id < 15) : uN (fK id).toNat (fW id).toNat (fM id).toNat (fB id).toNat (2 * (fitM id).toNat) < 2 ^ 4000 := by
  rcases id_cases h1 h2 with rfl | rfl | rfl | rfl | rfl | rfl | rfl | rfl | rfl | rfl | rfl | rfl | rfl | rfl <;> decide +kernel
theorem uN_le {id : Int} {i j : Nat} (h1 : 1 ≤ id) (h2 : id < 15) (h : i ≤ j) (hj : j ≤ 2 * (fitM id).toNat + 1) : uN (fK id).toNat (fW id).toNat (fM id).toNat (fB id).toNat (i) ≤ uN (fK id).toNat (fW id).toNat (fM id).toNat (fB id).toNat (j) := by
  rcases Nat.eq_or_lt_of_le h with h | h
  · rw [h]; exact Nat.le_refl _
  · obtain ⟨b1, b2, b3, b4, b5, b6, b7⟩ := fo_nat h1 h2 false
    refine Nat.le_of_lt (uN_mono (fun hk => ⟨by omega, b4, ?_⟩) b1 h)
    obtain ⟨_, _, c, _⟩ := mag_tab h1 h2
    have := (c (b5.1 hk)).1
    rw [show (fW id).toNat + 1 - 1 = (fW id).toNat by omega] at this
    omega
theorem uN_lt {id : Int} {i j : Nat} (h1 : 1 ≤ id) (h2 : id < 15) (h : i < j) (hj : j ≤ 2 * (fitM id).toNat + 1) : uN (fK id).toNat (fW id).toNat (fM id).toNat (fB id).toNat (i) < uN (fK id).toNat (fW id).toNat (fM id).toNat (fB id).toNat (j) := by
  obtain ⟨b1, b2, b3, b4, b5, b6, b7⟩ := fo_nat h1 h2 false
  refine uN_mono (fun hk => ⟨by omega, b4, ?_⟩) b1 h
  obtain ⟨_, _, c, _⟩ := mag_tab h1 h2
  have := (c (b5.1 hk)).1
  rw [show (fW id).toNat + 1 - 1 = (fW id).toNat by omega] at this
  omega
theorem sc_of {m u : Nat} {e : Int} (h0 : 0 ≤ (2000 : Int) + e) (h : m * 2 ^ ((2000 : Int) + e).toNat = u) : exP m e 0 * sc2 = u * exQ e 0 := by
  have e1 : exP m e 0 = m * 2 ^ e.toNat := by unfold exP; simp
  have e2 : exQ e 0 = 2 ^ (-e).toNat := by unfold exQ; simp
  have g0 : 2000 = (-e).toNat + (2000 - (-e).toNat) := by omega
  have g1 : ((2000 : Int) + e).toNat = e.toNat + (2000 - (-e).toNat) := by omega
  generalize hc : 2000 - (-e).toNat = c at g0 g1
  have hs : sc2 = 2 ^ (-e).toNat * 2 ^ c := by unfold sc2; rw [← Nat.pow_add, ← g0]
  rw [e1, e2, hs, ← h, g1, Nat.pow_add]
  ac_rfl
/-- A magnitude's own number, as Decode tells it. -/
theorem mag_range0 {id : Int} {key : Nat} (h1 : 1 ≤ id) (h2 : id < 15) (hk : (key : Int) ≤ fitM id) (h0 : fK id ≠ 4 → 0 < key) : 0 < (magV id 0 key).1 ∧ (magV id 0 key).1 < 18446744073709551616 ∧ -2000 ≤ (magV id 0 key).2 ∧ (magV id 0 key).2 ≤ 2000 ∧
    0 ≤ (2000 : Int) + (magV id 0 key).2 ∧ (magV id 0 key).1 * 2 ^ ((2000 : Int) + (magV id 0 key).2).toNat = uN (fK id).toNat (fW id).toNat (fM id).toNat (fB id).toNat (2 * key) := by
  obtain ⟨w1, w2, w3, w4, -⟩ := fo_wide h1 h2
  have hKn := fK_nat id
  have hKb := fK_bnd id
  obtain ⟨k0, kw, k1, k2, k4⟩ := mag_own h1 h2 hk (fun h => h0 (by omega))
  obtain ⟨c1, c2⟩ := numQ_two (fK id).toNat (fW id).toNat (fM id).toNat (fB id).toNat key (fun h => ⟨by omega, by omega, by have := (k1 (by omega)).1; exact this, by have := (k1 (by omega)).2; exact this⟩) (by omega)
  have hb : 0 < (numQ (fK id).toNat (fW id).toNat (fM id).toNat (fB id).toNat 0 key).1 ∧ (numQ (fK id).toNat (fW id).toNat (fM id).toNat (fB id).toNat 0 key).1 < 18446744073709551616 := by
    by_cases h4 : fK id = 4
    · have e : numQ (fK id).toNat (fW id).toNat (fM id).toNat (fB id).toNat 0 key = (1 + 2 * 0, ((key / 2 ^ 0 : Nat) : Int) - (fB id).toNat - ((0 : Nat) : Int)) := by
        unfold numQ
        rw [h4]; rfl
      rw [e]
      exact ⟨show 0 < 1 by decide, show 1 < 18446744073709551616 by decide⟩
    · obtain ⟨b1, b2, b3⟩ := numQ_bnd (kd := (fK id).toNat) (wd := (fW id).toNat) (mn := (fM id).toNat) (bs := (fB id).toNat) (j := key) (more := 0) (by decide) (h0 h4) kw
        (fun h => ⟨by omega, (k1 (by omega)).2⟩) w3 (fun h => k2 (by omega)) (fun h3 h4 h5 => by omega)
      exact ⟨b1, b2⟩
  obtain ⟨d1, d2, d3, d4⟩ := oddP_bnd (e := (numQ (fK id).toNat (fW id).toNat (fM id).toNat (fB id).toNat 0 key).2) hb.1 hb.2
  have hv := oddP_val (f := 64) (m := (numQ (fK id).toNat (fW id).toNat (fM id).toNat (fB id).toNat 0 key).1) (K := 2000) (e := (numQ (fK id).toNat (fW id).toNat (fM id).toNat (fB id).toNat 0 key).2) c1
  have e5 : 0 ≤ (2000 : Int) + (magV id 0 key).2 := by
    show 0 ≤ (2000 : Int) + (oddP 64 _ _).2
    omega
  have e6 : (magV id 0 key).1 * 2 ^ ((2000 : Int) + (magV id 0 key).2).toNat = uN (fK id).toNat (fW id).toNat (fM id).toNat (fB id).toNat (2 * key) := hv.trans c2
  have e1 : 0 < (magV id 0 key).1 := d1
  refine ⟨d1, d2, by omega, ?_, e5, e6⟩
  have hlt : 2 ^ ((2000 : Int) + (magV id 0 key).2).toNat < 2 ^ 4000 := by
    refine Nat.lt_of_le_of_lt ?_ (uN_top h1 h2)
    refine Nat.le_trans ?_ (uN_le h1 h2 (i := 2 * key) (by omega) (by omega))
    rw [← e6]
    exact Nat.le_mul_of_pos_left _ e1
  have := (Nat.pow_lt_pow_iff_right (a := 2) (by decide)).1 hlt
  omega
/-- Where nothing is left over, the digits lie in the interval. -/
theorem itv_own {id : Int} {neg : Bool} {key d : Nat} {k : Int} (hE : mostE id neg = 0) (hk : (key : Int) ≤ mostV id neg) (h0 : fK id ≠ 4 → 0 < key)
    (hd : exP d k k * exQ (magV id 0 key).2 0 = exP (magV id 0 key).1 (magV id 0 key).2 0 * exQ k k) : itvHas (limV id neg key) d k = true := by
  obtain ⟨h1, h2, h3⟩ := mostE_zero hE
  have hf := (most_fit hE).1
  obtain ⟨a1, a2, a3, a4, a5, a6⟩ := mag_range0 h1 h2 (by omega) h0
  have hs := sc_of a5 a6
  have hx : exP d k k * sc2 = uN (fK id).toNat (fW id).toNat (fM id).toNat (fB id).toNat (2 * key) * exQ k k := by
    refine Nat.eq_of_mul_eq_mul_right (exQ_pos (magV id 0 key).2 0) ?_
    rw [Nat.mul_right_comm (exP d k k), hd, Nat.mul_right_comm (exP (magV id 0 key).1 (magV id 0 key).2 0), hs, Nat.mul_right_comm]
  have hq := exQ_pos k k
  unfold itvHas
  rw [Bool.and_eq_true]
  constructor
  · by_cases hF : limF id ≤ key
    · have e1 : (limV id neg key).lowN = (magV id 1 (2 * (key - 1) + 1)).1 := if_pos hF
      have e2 : (limV id neg key).lowT = (magV id 1 (2 * (key - 1) + 1)).2 := if_pos hF
      have hF1 : 1 ≤ key := by unfold limF at hF; split at hF <;> omega
      obtain ⟨m1, -, -, -, m5, m6⟩ := mag_range (key := key - 1) h1 h2 (by omega)
      obtain ⟨x1, x2⟩ := exC_wi (N := d) (t := k) (f := k) m5 m6
      rw [e1, e2]
      have hlt : uN (fK id).toNat (fW id).toNat (fM id).toNat (fB id).toNat (2 * (key - 1) + 1) * exQ k k < exP d k k * sc2 := by
        rw [hx]; exact Nat.mul_lt_mul_of_pos_right (uN_lt h1 h2 (by clear hx hd a6 m6 x1 x2; omega) (by clear hx hd a6 m6 x1 x2; omega)) hq
      have n1 : ¬ exC d k k (magV id 1 (2 * (key - 1) + 1)).1 (magV id 1 (2 * (key - 1) + 1)).2 0 < 0 := fun h => absurd (x1.1 h) (Nat.not_lt.2 (Nat.le_of_lt hlt))
      have n2 : ¬ exC d k k (magV id 1 (2 * (key - 1) + 1)).1 (magV id 1 (2 * (key - 1) + 1)).2 0 = 0 := fun h => absurd (x2.1 h) (Nat.ne_of_gt hlt)
      rw [Bool.or_eq_true, decide_eq_true_eq]
      clear hlt x1 x2 hx hs hd a6 m6
      left; omega
    · have e1 : (limV id neg key).lowN = 0 := if_neg hF
      have e2 : (limV id neg key).lowT = 0 := if_neg hF
      have hd0 : 0 < d := by
        rcases Nat.eq_zero_or_pos d with h | h
        · subst h
          have hp := Nat.mul_pos (exP_pos (magV id 0 key).2 0 a1) hq
          rw [← hd] at hp
          clear hx hs a6 hd
          simp [exP] at hp
        · exact h
      rw [e1, e2, exC_zero_r, cmpV_gt (a := (d : Int)) (b := 0) (by omega)]
      rfl
  · by_cases hH : limH id neg key = true
    · have e1 : (limV id neg key).highN = (magV id 1 (2 * key + 1)).1 := if_pos hH
      have e2 : (limV id neg key).highT = (magV id 1 (2 * key + 1)).2 := if_pos hH
      obtain ⟨m1, -, -, -, m5, m6⟩ := mag_range (key := key) h1 h2 (by omega)
      obtain ⟨x1, x2⟩ := exC_wi (N := d) (t := k) (f := k) m5 m6
      rw [e1, e2, if_pos m1]
      have hlt : exP d k k * sc2 < uN (fK id).toNat (fW id).toNat (fM id).toNat (fB id).toNat (2 * key + 1) * exQ k k := by
        rw [hx]; exact Nat.mul_lt_mul_of_pos_right (uN_lt h1 h2 (by clear hx hd a6 m6 x1 x2; omega) (by clear hx hd a6 m6 x1 x2; omega)) hq
      rw [Bool.or_eq_true, decide_eq_true_eq]
      exact .inl (x1.2 hlt)
    · have e1 : (limV id neg key).highN = 0 := if_neg hH
      rw [e1]
      rfl
end Go.Proofs.YtncfbleeidjflaaGreatDoor
namespace Go.Cal
/-- Where the search begins. -/
def lgS (N : Nat) (t : Int) : Int := if 0 ≤ ((exS (bl N) t 0 + 6) * 30103).tdiv 100000 then ((exS (bl N) t 0 + 6) * 30103).tdiv 100000 + 1 else ((exS (bl N) t 0 + 6) * 30103).tdiv 100000
/-- From a power of ten down. -/
def seekL (N : Nat) (t : Int) : Nat → Int → Int
  | 0, k => k
  | f + 1, k => if exC N t 0 1 k k < 0 then seekL N t f (k - 1) else k
/-- What Log10 tells. -/
def lgV (N : Nat) (t : Int) : Int := seekL N t 6000 (lgS N t)
theorem lgS_bnd {N : Nat} {t : Int} (hN : N < 2 ^ 64) (ht : -2000 ≤ t ∧ t ≤ 2000) : -700 ≤ lgS N t ∧ lgS N t ≤ 700 := by
  have hb : bl N ≤ 64 := bl_iff.2 hN
  have hS : exS (bl N) t 0 = (bl N : Int) + t := by unfold exS; simp
  unfold lgS
  rw [hS]
  generalize bl N = b at hb ⊢
  have h1 : (((b : Int) + t + 6) * 30103).tdiv 100000 ≤ 640 := by
    rcases Int.le_total 0 (((b : Int) + t + 6) * 30103) with h | h
    · rw [Int.tdiv_eq_ediv_of_nonneg h]; omega
    · have e : (((b : Int) + t + 6) * 30103) = -(-(((b : Int) + t + 6) * 30103)) := by omega
      rw [e, Int.neg_tdiv, Int.tdiv_eq_ediv_of_nonneg (by omega)]
      omega
  have h2 : -640 ≤ (((b : Int) + t + 6) * 30103).tdiv 100000 := by
    rcases Int.le_total 0 (((b : Int) + t + 6) * 30103) with h | h
    · have := Int.tdiv_nonneg h (show (0 : Int) ≤ 100000 by decide); omega
    · have e : (((b : Int) + t + 6) * 30103) = -(-(((b : Int) + t + 6) * 30103)) := by omega
      rw [e, Int.neg_tdiv, Int.tdiv_eq_ediv_of_nonneg (by omega)]
      omega
  split <;> omega
theorem exC_low {N : Nat} {t k : Int} (hN : 0 < N) (hk : k ≤ t) (hk0 : k ≤ 0) : ¬ exC N t 0 1 k k < 0 := by
  unfold exC
  have h1 : exP 1 k k * exQ t 0 ≤ exP N t 0 * exQ k k := by
    unfold exP exQ
    rw [show k.toNat = 0 by omega]
    simp only [Nat.pow_zero, Nat.mul_one, Int.toNat_zero, Int.neg_zero, Nat.one_mul]
    have h5 : 1 ≤ 5 ^ (-k).toNat := Nat.one_le_pow _ _ (by decide)
    have h2 : 2 ^ (-t).toNat ≤ 2 ^ t.toNat * 2 ^ (-k).toNat := by
      rw [← Nat.pow_add]; exact Nat.pow_le_pow_right (by decide) (by omega)
    calc 2 ^ (-t).toNat ≤ 2 ^ t.toNat * 2 ^ (-k).toNat := h2
      _ ≤ N * (2 ^ t.toNat * 2 ^ (-k).toNat) := Nat.le_mul_of_pos_left _ hN
      _ ≤ N * (2 ^ t.toNat * 2 ^ (-k).toNat) * 5 ^ (-k).toNat := Nat.le_mul_of_pos_right _ h5
      _ = N * 2 ^ t.toNat * (5 ^ (-k).toNat * 2 ^ (-k).toNat) := by ac_rfl
  rcases cmpV_cases ((exP N t 0 * exQ k k : Nat) : Int) ((exP 1 k k * exQ t 0 : Nat) : Int) with ⟨h, hv⟩ | ⟨h, hv⟩ | ⟨h, hv⟩
  · omega
  · rw [hv]; decide
  · rw [hv]; decide
theorem seekL_is {N : Nat} {t : Int} (hN : 0 < N) : ∀ (f : Nat) (k kx : Int), k - kx < f → 0 < f → kx ≤ t → kx ≤ 0 → ∃ k', seekL N t f k = k' ∧ k' ≤ k ∧ min k kx ≤ k'
  | 0, k, kx, _, h0, _, _ => by omega
  | f + 1, k, kx, hf, _, hx, hx0 => by
    unfold seekL
    by_cases hc : exC N t 0 1 k k < 0
    · rw [if_pos hc]
      have hk : kx < k := Classical.byContradiction fun h => exC_low hN (by omega) (by omega) hc
      obtain ⟨k', h1, h2, h3⟩ := seekL_is hN f (k - 1) kx (by omega) (by omega) hx hx0
      exact ⟨k', h1, by omega, by omega⟩
    · rw [if_neg hc]
      exact ⟨k, rfl, Int.le_refl _, by omega⟩
theorem lgV_bnd {N : Nat} {t : Int} (h0 : 0 < N) (hN : N < 2 ^ 64) (ht : -2000 ≤ t ∧ t ≤ 2000) : -2000 ≤ lgV N t ∧ lgV N t ≤ 700 := by
  obtain ⟨b1, b2⟩ := lgS_bnd hN ht
  obtain ⟨k', h1, h2, h3⟩ := seekL_is h0 (t := t) 6000 (lgS N t) (min t 0) (by omega) (by decide) (by omega) (by omega)
  unfold lgV
  omega
end Go.Cal
