/- Rounding: a size out of a number of one word, the boundaries, walked. Conditions: the variables that values read. -/
/- Rounding: the boundaries, walked. Conditions: the variables that values read. -/
/- Exact numbers: Floor, walked. Conditions: none. -/
/- Rounding: is a size to be rounded to a magnitude or a lesser one, walked. Conditions: the variables that values read. -/
/- Rounding: the nearest magnitude, walked. Conditions: the variables that values read. -/
import Derived.Test.YtdlkfnkmdlcekaaGreatDoorTp19
import Derived.Test.YtdlkfnkmdlcekaaGreatDoorTp22
import Derived.Test.YtdlkfnkmdlcekaaGreatDoorTp20
import Derived.Test.YtdlkfnkmdlcekaaGreatDoorTp02
import Derived.Deep.LoopGhost
namespace Go.Proofs.YtdlkfnkmdlcekaaGreatDoor
open Go.RowKit Go.Cal
theorem nof_x (w : World) (m : Nat) (hm : m < 18446744073709551616) : Calls Tryz.prog 60 #[.int .u64 m] w fun e w' => ∃ A n c, e = .returned (.slice A n c) ∧ IsT w' (.slice A n c) 128 m ∧ Below w.heap.size w w' := by
  refine (of_t w m hm).mono ?_
  rintro e w' ⟨v, rfl, hv, hb⟩
  have hv' : IsT w' v 128 m := by
    obtain ⟨A, c, zs, h1, h2, h3, h4, h5, h6⟩ := hv
    exact ⟨A, c, zs, h1, h2, h3, h4, by omega, h6⟩
  obtain ⟨A, c, zs, rfl, -⟩ := id hv'
  exact ⟨A, _, c, rfl, hv', hb⟩
set_option maxRecDepth 100000 in
set_option maxHeartbeats 1000000 in
theorem xof_fin (neg : Bool) (m : Nat) (t : Int) (hm : m < 18446744073709551616) (ht : -5000 ≤ t ∧ t ≤ 5000) (w : World) :
    Calls Tryz.prog 116 #[.agg #[.int .i64 2, .bool neg, .int .u64 m, .int .i64 t]] w fun e w' => ∃ A n c, e = .returned (.tuple #[.agg #[.bool neg, .slice A n c, .int .i64 t, .int .i64 0], .bool true]) ∧ IsT w' (.slice A n c) 128 m ∧ Below w.heap.size w w' := by
  obtain ⟨ht1, ht2⟩ := ht
  have hb0 : Below w.heap.size w ((w.alloc (.cells #[.int .i64 2, .bool neg, .int .u64 m, .int .i64 t] 25)).alloc (.cells #[.bool false, .slice none 0 0, .int .i64 0, .int .i64 0] 56)) := ((Below.refl _ _).alloc (Nat.le_refl _) _).alloc (by simp) _
  have hof := Lib.hid fun w' => nof_x w' m hm
  go_enter Tryz.func116, Tryz.ntmps116
  go_wp2_with fail
  refine (xin_yes t ht1 ht2 _).mono ?_
  rintro e w1 ⟨rfl, rfl⟩
  go_wp2_with fail
  have hp1 : pBlk (w.heap.size + 1) #[.bool false, .slice none 0 0, .int .i64 0, .int .i64 0] 56 ((w.alloc (.cells #[.int .i64 2, .bool neg, .int .u64 m, .int .i64 t] 25)).alloc (.cells #[.bool false, .slice none 0 0, .int .i64 0, .int .i64 0] 56)).drew := by
    have := pBlk_st _ _ _ _ _ (pBlk_made (w.alloc (.cells #[.int .i64 2, .bool neg, .int .u64 m, .int .i64 t] 25)) #[.bool false, .slice none 0 0, .int .i64 0, .int .i64 0] 56) (Below.refl _ _).drew
    rw [show (w.alloc (.cells #[.int .i64 2, .bool neg, .int .u64 m, .int .i64 t] 25)).heap.size = w.heap.size + 1 by simp] at this
    exact this
  have hp0 := pBlk_st _ _ _ _ _ (pBlk_st _ _ _ _ _ (pBlk_made w #[.int .i64 2, .bool neg, .int .u64 m, .int .i64 t] 25) ((Below.refl _ _).alloc (Nat.le_refl _) (.cells #[.bool false, .slice none 0 0, .int .i64 0, .int .i64 0] 56))) (Below.refl _ _).drew
  go_region_with (go_at_call 60; refine (hof.out _).mono ?_; rintro e w2 ⟨A, n, c, rfl, hv2, hb2⟩; obtain ⟨hc2, hf2⟩ := bcell hb2)
  all_goals
    have hp2 := pBlk_st _ _ _ _ _ hp1 hb2
    have hBw : Below w.heap.size w w2 := hb0.trans ((Below.refl _ _).drew.trans (hb2.mono (by simp; omega)))
    obtain ⟨g, hg⟩ : ∃ g, w.heap.size + 1 = g := ⟨_, rfl⟩
    have hgl : w.heap.size ≤ g := by omega
    rw [hg] at hp2 ⊢
    have hno : ∀ (a b c d : Value), (∀ n, a ≠ .int .u64 n) → (∀ n, b ≠ .int .u64 n) → (∀ n, c ≠ .int .u64 n) → (∀ n, d ≠ .int .u64 n) → ∀ x ∈ (#[a, b, c, d] : Array Value).toList, ∀ n, x ≠ .int .u64 n := by
      intro a b c d ha hb hc hd x hx
      simp at hx
      rcases hx with rfl | rfl | rfl | rfl <;> assumption
    have hvf := IsT.apartX (i := 3) (u := .int .i64 0) (IsT.apartX (i := 2) (u := .int .i64 t) (IsT.apartX (i := 1) (u := .slice A n c) (IsT.apartX (i := 0) (u := .bool neg) hv2 hp2 (hno _ _ _ _ (by simp) (by simp) (by simp) (by simp))) (hp2.setX 0 (.bool neg)) (hno _ _ _ _ (by simp) (by simp) (by simp) (by simp))) ((hp2.setX 0 (.bool neg)).setX 1 (.slice A n c)) (hno _ _ _ _ (by simp) (by simp) (by simp) (by simp))) (((hp2.setX 0 (.bool neg)).setX 1 (.slice A n c)).setX 2 (.int .i64 t)) (hno _ _ _ _ (by simp) (by simp) (by simp) (by simp))
    have hpf := (((hp2.setX 0 (.bool neg)).setX 1 (.slice A n c)).setX 2 (.int .i64 t)).setX 3 (.int .i64 0)
    have hBf : Below w.heap.size w ((((w2.setCell ⟨g, 0, none⟩ (.bool neg)).setCell ⟨g, 1, none⟩ (.slice A n c)).setCell ⟨g, 2, none⟩ (.int .i64 t)).setCell ⟨g, 3, none⟩ (.int .i64 0)) :=
      (((hBw.setCell (p := ⟨g, 0, none⟩) hgl _).setCell (p := ⟨g, 1, none⟩) hgl _).setCell (p := ⟨g, 2, none⟩) hgl _).setCell (p := ⟨g, 3, none⟩) hgl _
    generalize ((((w2.setCell ⟨g, 0, none⟩ (.bool neg)).setCell ⟨g, 1, none⟩ (.slice A n c)).setCell ⟨g, 2, none⟩ (.int .i64 t)).setCell ⟨g, 3, none⟩ (.int .i64 0)) = w3 at hvf hpf hBf ⊢
    have y0 := pBlk.cell hpf 0 (.bool neg) rfl
    have y1 := pBlk.cell hpf 1 (.slice A n c) rfl
    have y2 := pBlk.cell hpf 2 (.int .i64 t) rfl
    have y3 := pBlk.cell hpf 3 (.int .i64 0) rfl
    clear hpf hno hp2 hc2 hf2 hp1 hp0 hv2 hb2 hBw
    go_wp2
    exact bodyPost_ret (v := .tuple #[.agg #[.bool neg, .slice A n c, .int .i64 t, .int .i64 0], .bool true]) (by simp [results, Tryz.results116, go_sem, y0, y1, y2, y3]) rfl ⟨A, n, c, rfl, hvf, hBf⟩
end Go.Proofs.YtdlkfnkmdlcekaaGreatDoor
namespace Go.Proofs.YtdlkfnkmdlcekaaGreatDoor
open Go.RowKit Go.Cal
theorem exact_size : (Tryz.prog.info? 56).map (·.size) = some 4 := by kernel_rfl
theorem cells4 {w : World} {g : Nat} {a b c d : Value} {t : TypeId} (hp : pBlk g #[a, b, c, d] t w) :
    w.cell? ⟨g, 0, none⟩ = some a ∧ w.cell? ⟨g, 1, none⟩ = some b ∧ w.cell? ⟨g, 2, none⟩ = some c ∧ w.cell? ⟨g, 3, none⟩ = some d :=
  ⟨hp.cell 0 _ rfl, hp.cell 1 _ rfl, hp.cell 2 _ rfl, hp.cell 3 _ rfl⟩
theorem noU : ∀ x ∈ (#[.bool false, .slice none 0 0, .int .i64 0, .int .i64 0] : Array Value).toList, ∀ n, x ≠ .int .u64 n := by simp
set_option maxRecDepth 100000 in
set_option maxHeartbeats 1000000 in
theorem rsize_any (m : Nat) (t : Int) (h0 : 0 < m) (hm : m < 18446744073709551616) (ht : -5000 ≤ t ∧ t ≤ 5000) (w : World) :
    Calls Tryz.prog 155 #[.int .u64 m, .int .i64 t] w fun e w' => ∃ A n c, e = .returned (.agg #[.bool false, .slice A n c, .int .i64 t, .int .i64 0]) ∧ IsT w' (.slice A n c) 128 m ∧ Below w.heap.size w w' := by
  have hof := Lib.hid fun w' => xof_fin false m t hm ht w'
  have hm0 : ((m : Int) == 0) = false := by simp; omega
  go_enter Tryz.func155, Tryz.ntmps155
  go_wp2_with fail
  refine (hof.out _).mono ?_
  rintro e w1 ⟨A, n, c, rfl, hv, hb⟩
  have hz := hb.size
  simp at hz
  have hB : Below w.heap.size w w1 := ((Below.refl _ _).alloc (Nat.le_refl _) _).trans (hb.mono (by simp))
  have hp0 := pBlk_st _ _ _ _ _ (pBlk_st _ _ _ _ _ (pBlk_made w #[.bool false, .slice none 0 0, .int .i64 0, .int .i64 0] 56) hb) ((Below.refl _ _).alloc (Nat.le_refl _) (.cells #[.bool false, .slice none 0 0, .int .i64 0, .int .i64 0] 56))
  have hv0 := hv.below ((Below.refl _ _).alloc (Nat.le_refl _) (.cells #[.bool false, .slice none 0 0, .int .i64 0, .int .i64 0] 56))
  go_wp2_with (first
    | ((with_reducible show wpList _ _ _ (Oper.mk _ (Op.store 56 _ _) _ _ _ _ :: _) _ _); refine wpList_store_keep _ rfl 56 _ _ rfl w1.heap.size #[.bool false, .slice A n c, .int .i64 t, .int .i64 0] #[.bool false, .slice none 0 0, .int .i64 0, .int .i64 0] 56 rfl rfl (pBlk_made w1 #[.bool false, .slice none 0 0, .int .i64 0, .int .i64 0] 56) exact_size rfl (by simp [Value.oneCell']) noU ?_; intro w2 hp2 hb2 hk2; obtain ⟨r0, r1, r2, r3⟩ := cells4 hp2; have hq := pBlk_keep hp0 hb2 (by omega); have hv2 := hk2 _ _ _ hv0)
    | ((with_reducible show wpList _ _ _ (Oper.mk _ (Op.store 56 _ _) _ _ _ _ :: _) _ _); refine wpList_store_keep _ rfl 56 _ _ rfl w.heap.size #[.bool false, .slice A n c, .int .i64 t, .int .i64 0] #[.bool false, .slice none 0 0, .int .i64 0, .int .i64 0] 56 rfl rfl hq exact_size rfl (by simp [Value.oneCell']) noU ?_; intro w3 hp3 hb3 hk3; obtain ⟨s0, s1, s2, s3⟩ := cells4 hp3; have hv3 := hk3 _ _ _ hv2))
  have hB3 : Below w.heap.size w w3 := ((hB.alloc hB.size _).trans (hb2.mono hB.size)).trans hb3
  exact bodyPost_ret (v := .agg #[.bool false, .slice A n c, .int .i64 t, .int .i64 0]) (by simp [results, Tryz.results155, go_sem, s0, s1, s2, s3]) rfl ⟨A, n, c, rfl, hv3, hB3⟩
theorem numQ_bnd {kd wd mn bs j more : Nat} (hm : more ≤ 1) (h0 : 0 < j) (hj : j < 18446744073709551616) (hw : kd = 1 → wd + more - 1 ≤ 64 ∧ j < 2 ^ (wd + more - 1)) (hn : mn ≤ 52) (h2 : kd = 2 → j / 2 ^ (mn + more) ≤ 4095) (h4 : kd ≠ 1 → kd ≠ 2 → kd ≠ 3 → j < 4000) :
    0 < (numQ kd wd mn bs more j).1 ∧ (numQ kd wd mn bs more j).1 < 18446744073709551616 ∧ (numQ kd wd mn bs more j).2 ≤ 4200 := by
  unfold numQ
  by_cases k1 : kd = 1
  · rw [if_pos k1]
    obtain ⟨a, b⟩ := hw k1
    obtain ⟨f1, f2⟩ := poF_bnd (poL (wd + more - 1) j) (j % 2 ^ poL (wd + more - 1) j)
    have hL := poL_le b
    have hR := poR_ge b
    have hE := poE_lt (Nat.mod_lt j (Nat.two_pow_pos (poL (wd + more - 1) j)))
    have hp := Nat.two_pow_pos (poL (wd + more - 1) j - 2)
    have hp2 : 2 ^ (poL (wd + more - 1) j - 2) ≤ 2 ^ 62 := Nat.pow_le_pow_right (by decide) (by omega)
    refine ⟨by simp only; omega, by simp only; omega, by simp only; omega⟩
  · rw [if_neg k1]
    by_cases k2 : kd = 2
    · rw [if_pos k2]
      have hM := miM_lt (mn + more) j
      have hP := miM_pos (man := mn + more) h0
      have hp2 : 2 ^ (mn + more + 1) ≤ 2 ^ 54 := Nat.pow_le_pow_right (by decide) (by omega)
      have hE : miE (mn + more) j = max (j / 2 ^ (mn + more)) 1 := rfl
      have := h2 k2
      refine ⟨by simp only; omega, by simp only; omega, by simp only; omega⟩
    · rw [if_neg k2]
      by_cases k3 : kd = 3
      · rw [if_pos k3]
        refine ⟨h0, hj, by simp only; omega⟩
      · rw [if_neg k3]
        have := h4 k1 k2 k3
        have hd : j / 2 ^ more ≤ j := Nat.div_le_self _ _
        refine ⟨by simp only; omega, by simp only; omega, ?_⟩
        simp only
        generalize j / 2 ^ more = q at hd ⊢
        omega
theorem oddP_bnd {m : Nat} {e : Int} (h0 : 0 < m) (hm : m < 18446744073709551616) : 0 < (oddP 64 m e).1 ∧ (oddP 64 m e).1 < 18446744073709551616 ∧ e ≤ (oddP 64 m e).2 ∧ (oddP 64 m e).2 ≤ e + 64 := by
  have h1 := tzN_lt 64 m h0 (by omega)
  have h2 := tzN_div 64 m
  unfold oddP
  rw [if_neg (by omega)]
  refine ⟨?_, ?_, by simp only; omega, by simp only; omega⟩
  · rcases Nat.eq_zero_or_pos (m / 2 ^ tzN 64 m) with h3 | h3
    · rw [h3] at h2; omega
    · exact h3
  · exact Nat.lt_of_le_of_lt (Nat.div_le_self _ _) hm
theorem fK_nat (id : Int) : (fK id).toNat = 1 ∧ fK id = 1 ∨ (fK id).toNat = 2 ∧ fK id = 2 ∨ (fK id).toNat = 3 ∧ fK id = 3 ∨ (fK id).toNat = 4 ∧ fK id = 4 := by
  have := fK_bnd id
  omega
theorem scale_top {id : Int} (h1 : 1 ≤ id) (h2 : id < 15) (h : fK id = 4) : fitM id = 254 := by
  rcases id_cases h1 h2 with rfl | rfl | rfl | rfl | rfl | rfl | rfl | rfl | rfl | rfl | rfl | rfl | rfl | rfl <;> first | rfl | (exact absurd h (by decide))
theorem mag_range {id : Int} {key : Nat} (h1 : 1 ≤ id) (h2 : id < 15) (hk : (key : Int) ≤ fitM id) : 0 < (magV id 1 (2 * key + 1)).1 ∧ (magV id 1 (2 * key + 1)).1 < 18446744073709551616 ∧ -5000 ≤ (magV id 1 (2 * key + 1)).2 ∧ (magV id 1 (2 * key + 1)).2 ≤ 5000 ∧
    0 ≤ (2000 : Int) + (magV id 1 (2 * key + 1)).2 ∧ (magV id 1 (2 * key + 1)).1 * 2 ^ ((2000 : Int) + (magV id 1 (2 * key + 1)).2).toNat = uN (fK id).toNat (fW id).toNat (fM id).toNat (fB id).toNat (2 * key + 1) := by
  obtain ⟨w1, w2, w3, w4, -⟩ := fo_wide h1 h2
  obtain ⟨k0, kw, k1, k2, k4⟩ := mag_half h1 h2 hk
  have hKn := fK_nat id
  obtain ⟨b1, b2, b3⟩ := numQ_bnd (kd := (fK id).toNat) (wd := (fW id).toNat) (mn := (fM id).toNat) (bs := (fB id).toNat) (j := 2 * key + 1) (more := 1) (by decide) (by omega) kw
    (fun h => ⟨by omega, (k1 (by omega)).2⟩) w3 (fun h => k2 (by omega)) (fun h3 h4 h5 => by have := scale_top h1 h2 (by omega); omega)
  obtain ⟨c1, c2⟩ := numQ_one (fK id).toNat (fW id).toNat (fM id).toNat (fB id).toNat (2 * key + 1) (by omega) (fun h => ⟨by omega, by omega, by have := (k1 (by omega)).2; rw [show (fW id).toNat + 1 - 1 = (fW id).toNat by omega] at this; exact this⟩) (by omega)
  obtain ⟨d1, d2, d3, d4⟩ := oddP_bnd (e := (numQ (fK id).toNat (fW id).toNat (fM id).toNat (fB id).toNat 1 (2 * key + 1)).2) b1 b2
  have hv := oddP_val (f := 64) (m := (numQ (fK id).toNat (fW id).toNat (fM id).toNat (fB id).toNat 1 (2 * key + 1)).1) (K := 2000) (e := (numQ (fK id).toNat (fW id).toNat (fM id).toNat (fB id).toNat 1 (2 * key + 1)).2) c1
  refine ⟨d1, d2, ?_, ?_, ?_, ?_⟩
  · show -5000 ≤ (oddP 64 _ _).2
    omega
  · show (oddP 64 _ _).2 ≤ 5000
    omega
  · show 0 ≤ (2000 : Int) + (oddP 64 _ _).2
    omega
  · exact hv.trans c2
set_option maxRecDepth 100000 in
set_option maxHeartbeats 1000000 in
theorem behind_any (id : Int) (h1 : 1 ≤ id) (h2 : id < 15) (key : Nat) (hk : (key : Int) ≤ fitM id) (w : World) (hW : VaW w) :
    Calls Tryz.prog 127 #[.int .i64 id, .int .u64 key] w fun e w' => ∃ A n c, e = .returned (.agg #[.bool false, .slice A n c, .int .i64 (magV id 1 (2 * key + 1)).2, .int .i64 0]) ∧ IsT w' (.slice A n c) 128 (magV id 1 (2 * key + 1)).1 ∧ Below w.heap.size w w' := by
  obtain ⟨a1, a2, a3, a4, -, -⟩ := mag_range h1 h2 hk
  have hbt := fun w hW => vbetween_any id h1 h2 key hk w hW
  generalize magV id 1 (2 * key + 1) = p at hbt a1 a2 a3 a4 ⊢
  obtain ⟨m, t⟩ := p
  have hrs := Lib.hid fun w => rsize_any m t a1 a2 ⟨a3, a4⟩ w
  replace hbt := Lib.hid hbt
  clear a1 a2 a3 a4
  go_enter Tryz.func127, Tryz.ntmps127
  go_wp2_with fail
  refine (hbt.out _ (hW.below ((Below.refl _ _).alloc (Nat.le_refl _) _))).mono ?_
  rintro e w1 ⟨rfl, hb⟩
  go_wp2_with fail
  refine (hrs.out _).mono ?_
  rintro e w2 ⟨A, n, c, rfl, hv, hb2⟩
  have hp0 := pBlk_st _ _ _ _ _ (pBlk_st _ _ _ _ _ (pBlk_made w #[.bool false, .slice none 0 0, .int .i64 0, .int .i64 0] 56) hb) hb2
  have hB : Below w.heap.size w w2 := (((Below.refl _ _).alloc (Nat.le_refl _) _).trans (hb.mono (by simp))).trans (hb2.mono (by have := hb.size; simp at this; omega))
  go_wp2_with ((with_reducible show wpList _ _ _ (Oper.mk _ (Op.store 56 _ _) _ _ _ _ :: _) _ _); refine wpList_store_keep _ rfl 56 _ _ rfl w.heap.size #[.bool false, .slice A n c, .int .i64 t, .int .i64 0] #[.bool false, .slice none 0 0, .int .i64 0, .int .i64 0] 56 rfl rfl hp0 exact_size rfl (by simp [Value.oneCell']) noU ?_; intro w3 hp3 hb3 hk3; obtain ⟨s0, s1, s2, s3⟩ := cells4 hp3; have hv3 := hk3 _ _ _ hv)
  exact bodyPost_ret (v := .agg #[.bool false, .slice A n c, .int .i64 t, .int .i64 0]) (by simp [results, Tryz.results127, go_sem, s0, s1, s2, s3]) rfl ⟨A, n, c, rfl, hv3, hB.trans hb3⟩
end Go.Proofs.YtdlkfnkmdlcekaaGreatDoor
namespace Go.Proofs.YtdlkfnkmdlcekaaGreatDoor
open Go.RowKit Go.Cal
theorem of_one (w : World) : Calls Tryz.prog 60 #[.int .u64 1] w (TellsT w 1 1) := of_t w 1 (by decide)
theorem of_ten (w : World) : Calls Tryz.prog 60 #[.int .u64 10] w (TellsT w 1 10) := of_t w 10 (by decide)
theorem flB_pos (e k : Int) : 0 < flB e k := exP_pos _ _ (by decide)
set_option maxRecDepth 100000 in
set_option maxHeartbeats 2000000 in
theorem xfloor_any {w : World} {A : Option Addr} {n c N : Nat} (m : Nat) (hm : 12178 ≤ m) (hmm : m ≤ 1048575) (neg : Bool) (t k : Int) (h : IsT w (.slice A n c) 128 N) (ht : -5000 ≤ t ∧ t ≤ 5000) (hk : -5000 ≤ k ∧ k ≤ 5000) :
    Calls Tryz.prog 130 #[.agg #[.bool neg, .slice A n c, .int .i64 t, .int .i64 0], .int .i64 k] w fun e w' => ∃ v, e = .returned (.tuple #[v, .int .i64 (flR N t k)]) ∧ IsT w' v m (flQ N t k) ∧ Below w.heap.size w w' := by
  have hm1 : max k (-5000) = k := by omega
  have hm2 : min k 5000 = k := by omega
  have hb0 := (Below.refl w.heap.size w).alloc (Nat.le_refl _) (.cells #[.bool neg, .slice A n c, .int .i64 t, .int .i64 0] 56)
  have hL := (((LiveP.start w).go hb0).put (pBlk_st _ _ _) (pBlk_made w #[.bool neg, .slice A n c, .int .i64 t, .int .i64 0] 56)).put (pT_st (.slice A n c) 128 N) (h.below hb0)
  have hA : exP N (t - k) (-k) = flA N t k := rfl
  have hB : exP 1 (k - t) k = flB t k := rfl
  have hBp := flB_pos t k
  have hQ : flA N t k / flB t k = flQ N t k := rfl
  have hR : flR N t k = if flA N t k % flB t k = 0 then 0 else 2 + cmpV ((2 * (flA N t k % flB t k) : Nat) : Int) ((flB t k : Nat) : Int) := rfl
  obtain ⟨ht1, ht2⟩ := ht
  obtain ⟨hk1, hk2⟩ := hk
  rw [hR]
  generalize flA N t k = a at hA hQ ⊢
  generalize flB t k = b at hB hQ hBp ⊢
  generalize flQ N t k = q at hQ ⊢
  clear hR h hb0
  have hng : -(t - k) = k - t := by omega
  have hsB := fun (W : World) (v : Value) (h : IsN W v 1 1) => xscaled_any m hm (-(t - k)) k (h.more (by decide)) (by omega) (by omega)
  rw [hng, hB] at hsB
  replace hsB := Lib.hid hsB
  have hsA := fun (W : World) (h : IsN W (.slice A n c) 128 N) => xscaled_any m hm (t - k) (-k) h (by omega) (by omega)
  rw [hA] at hsA
  replace hsA := Lib.hid hsA
  clear hng
  replace hA := Lib.hid hA
  replace hB := Lib.hid hB
  replace hQ := Lib.hid hQ
  obtain ⟨fr, hfr⟩ : ∃ fr : Int, (if a % b = 0 then (0 : Int) else 2 + cmpV ((2 * (a % b) : Nat) : Int) ((b : Nat) : Int)) = fr := ⟨_, rfl⟩
  rw [hfr]
  replace hfr := Lib.hid hfr
  have hX := pBlk_made w #[.bool neg, .slice A n c, .int .i64 t, .int .i64 0] 56
  go_enter Tryz.func130, Tryz.ntmps130
  go_wp2_with fail
  go_quiet (fail)
  replace hL := hL.go (below_drewN _ nq)
  go_wp2_with fail
  refine (of_one _).mono ?_
  rintro e w1 ⟨v1, rfl, hv1, hb1⟩
  replace hL := (hL.go hb1).put (pT_st v1 1 1) hv1
  clear hb1 hv1
  go_wp2_with fail
  rw [show -(t - k) = k - t by omega]
  refine (hsB.out _ _ (IsT.isN (hL.get (P := pT v1 1 1) (by repeat (first | exact List.mem_cons_self | apply List.mem_cons_of_mem))))).mono ?_
  rintro e w2 ⟨v2, rfl, hv, hb⟩
  replace hL := (hL.go hb).put (pT_st _ _ _) hv
  clear hb hv
  obtain ⟨r0, r1, r2, r3⟩ := cells4 (hL.get (P := pBlk w.heap.size #[.bool neg, .slice A n c, .int .i64 t, .int .i64 0] 56) (by repeat (first | exact List.mem_cons_self | apply List.mem_cons_of_mem)))
  go_wp2_with fail
  refine (hsA.out _ (IsT.isN (hL.get (P := pT (.slice A n c) 128 N) (by repeat (first | exact List.mem_cons_self | apply List.mem_cons_of_mem))))).mono ?_
  rintro e w3 ⟨v3, rfl, hv, hb⟩
  replace hL := (hL.go hb).put (pT_st _ _ _) hv
  clear hb hv r0 r1 r2 r3
  go_wp2_with fail
  refine (div_t (IsT.isN (hL.get (P := pT v3 m a) (by repeat (first | exact List.mem_cons_self | apply List.mem_cons_of_mem)))) (IsT.isN (hL.get (P := pT v2 m b) (by repeat (first | exact List.mem_cons_self | apply List.mem_cons_of_mem)))) (by omega) (by omega) hBp).mono ?_
  rintro e w4 ⟨v4, v5, rfl, hq, hr, hb⟩
  replace hL := ((hL.go hb).put (pT_st _ _ _) hq).put (pT_st _ _ _) hr
  clear hb hq hr
  rw [hQ.out] at hL
  go_wp2_with fail
  refine (bits_b (hL.get (P := pT v5 m (a % b)) (by repeat (first | exact List.mem_cons_self | apply List.mem_cons_of_mem))) (by omega)).mono ?_
  rintro e w5 ⟨rfl, hb⟩
  replace hL := hL.go hb
  clear hb
  by_cases h0 : a % b = 0
  · have hf := hfr.out
    rw [if_pos h0] at hf
    rw [h0]
    have hb0 : (((blen 0 : Nat) : Int) == 0) = true := by decide +kernel
    go_wp2
    go_ret2
    subst hf
    exact ⟨_, rfl, hL.get (P := pT v4 m q) (by repeat (first | exact List.mem_cons_self | apply List.mem_cons_of_mem)), hL.below⟩
  · have hf := hfr.out
    rw [if_neg h0] at hf
    obtain ⟨r, hr⟩ : ∃ r, a % b = r := ⟨_, rfl⟩
    rw [hr] at hL h0 hf ⊢
    replace hf := Lib.hid hf
    have hbl : ((blen r : Nat) : Int) ≠ 0 := by
      have := (blen_bnd (N := r) (by omega)).1
      intro h
      have h2 : blen r = 0 := by omega
      rw [h2] at this
      simp at this
      omega
    have hbl' : (((blen r : Nat) : Int) == 0) = false := by simpa using hbl
    replace hr := Lib.hid hr
    go_wp2_with fail
    refine (shl_t 1 (m + 1) (2 * r) (IsT.isN (hL.get (P := pT v5 m r) (by repeat (first | exact List.mem_cons_self | apply List.mem_cons_of_mem)))) (by omega) (by rw [Nat.mul_comm]; rfl) (by
      have := (IsT.isN (hL.get (P := pT v5 m r) (by repeat (first | exact List.mem_cons_self | apply List.mem_cons_of_mem)))).lt
      rw [Nat.pow_succ]
      have h64 : 2 ≤ 18446744073709551616 := by decide
      rw [Nat.mul_comm]
      exact Nat.mul_lt_mul_of_lt_of_le this h64 (by decide))).mono ?_
    rintro e w6 ⟨v6, rfl, hv, hb⟩
    replace hL := (hL.go hb).put (pT_st _ _ _) hv
    clear hb hv
    go_wp2_with fail
    refine (cmp_t (IsT.isN (hL.get (P := pT v6 (m + 1) (2 * r)) (by repeat (first | exact List.mem_cons_self | apply List.mem_cons_of_mem)))) (IsT.isN (hL.get (P := pT v2 m b) (by repeat (first | exact List.mem_cons_self | apply List.mem_cons_of_mem)))) (by omega) (by omega)).mono ?_
    rintro e w7 ⟨rfl, hb⟩
    replace hL := hL.go hb
    clear hb
    obtain ⟨cv, hcv⟩ : ∃ cv, cmpV ((2 * r : Nat) : Int) ((b : Nat) : Int) = cv := ⟨_, rfl⟩
    have hcb : -1 ≤ cv ∧ cv ≤ 1 := by
      rw [← hcv]
      rcases cmpV_cases ((2 * r : Nat) : Int) ((b : Nat) : Int) with ⟨_, h⟩ | ⟨_, h⟩ | ⟨_, h⟩ <;> rw [h] <;> decide
    have hf2 := hf.out
    rw [hcv] at hf2 ⊢
    obtain ⟨hcb1, hcb2⟩ := hcb
    subst hf2
    go_wp2
    go_ret2
    exact ⟨_, rfl, hL.get (P := pT v4 m q) (by repeat (first | exact List.mem_cons_self | apply List.mem_cons_of_mem)), hL.below⟩
end Go.Proofs.YtdlkfnkmdlcekaaGreatDoor
namespace Go.Proofs.YtdlkfnkmdlcekaaGreatDoor
open Go.RowKit Go.Cal
section
variable {w W W' : World} {neg : Bool} {A : Option Addr} {n c N : Nat} {t f : Int}
theorem boxW (h : LiveP w W [pT (.slice A n c) 128 N, pBlk w.heap.size #[.bool neg, .slice A n c, .int .i64 t, .int .i64 f] 56]) : LiveP w W [pT (.slice A n c) 128 N, pBlk w.heap.size #[.bool neg, .slice A n c, .int .i64 t, .int .i64 f] 56] ∧ w.heap.size < (W).heap.size ∧ (W).cell? ⟨w.heap.size, 0, none⟩ = some (.bool neg) ∧ (W).cell? ⟨w.heap.size, 1, none⟩ = some (.slice A n c) ∧ (W).cell? ⟨w.heap.size, 2, none⟩ = some (.int .i64 t) ∧ (W).cell? ⟨w.heap.size, 3, none⟩ = some (.int .i64 f) := by
  have p1 := h.get (P := pBlk w.heap.size #[.bool neg, .slice A n c, .int .i64 t, .int .i64 f] 56) (by repeat (first | exact List.mem_cons_self | apply List.mem_cons_of_mem))
  have hlt : w.heap.size < W.heap.size := by
    have := p1
    unfold pBlk at this
    exact (Array.getElem?_eq_some_iff.1 this).1
  exact ⟨h, hlt, p1.cell 0 _ rfl, p1.cell 1 _ rfl, p1.cell 2 _ rfl, p1.cell 3 _ rfl⟩
theorem keepW (h : LiveP w W [pT (.slice A n c) 128 N, pBlk w.heap.size #[.bool neg, .slice A n c, .int .i64 t, .int .i64 f] 56] ∧ w.heap.size < (W).heap.size ∧ (W).cell? ⟨w.heap.size, 0, none⟩ = some (.bool neg) ∧ (W).cell? ⟨w.heap.size, 1, none⟩ = some (.slice A n c) ∧ (W).cell? ⟨w.heap.size, 2, none⟩ = some (.int .i64 t) ∧ (W).cell? ⟨w.heap.size, 3, none⟩ = some (.int .i64 f)) (hb : Below W.heap.size W W') : LiveP w W' [pT (.slice A n c) 128 N, pBlk w.heap.size #[.bool neg, .slice A n c, .int .i64 t, .int .i64 f] 56] ∧ w.heap.size < (W').heap.size ∧ (W').cell? ⟨w.heap.size, 0, none⟩ = some (.bool neg) ∧ (W').cell? ⟨w.heap.size, 1, none⟩ = some (.slice A n c) ∧ (W').cell? ⟨w.heap.size, 2, none⟩ = some (.int .i64 t) ∧ (W').cell? ⟨w.heap.size, 3, none⟩ = some (.int .i64 f) := boxW (h.1.go hb)
theorem bhW {id : Int} {key m : Nat} {e : Int} (hW : VaW w) (h1 : 1 ≤ id) (h2 : id < 15) (hk : (key : Int) ≤ fitM id) (hm : magV id 1 (2 * key + 1) = (m, e)) (h : LiveP w W [pT (.slice A n c) 128 N, pBlk w.heap.size #[.bool neg, .slice A n c, .int .i64 t, .int .i64 f] 56] ∧ w.heap.size < (W).heap.size ∧ (W).cell? ⟨w.heap.size, 0, none⟩ = some (.bool neg) ∧ (W).cell? ⟨w.heap.size, 1, none⟩ = some (.slice A n c) ∧ (W).cell? ⟨w.heap.size, 2, none⟩ = some (.int .i64 t) ∧ (W).cell? ⟨w.heap.size, 3, none⟩ = some (.int .i64 f)) : Calls Tryz.prog 127 #[.int .i64 id, .int .u64 key] W fun x w' => ∃ A n c, x = .returned (.agg #[.bool false, .slice A n c, .int .i64 e, .int .i64 0]) ∧ IsT w' (.slice A n c) 128 m ∧ Below W.heap.size W w' := by
  have := behind_any id h1 h2 key hk W (hW.below h.1.below)
  rw [hm] at this
  exact this
theorem cmW {A2 : Option Addr} {n2 c2 m : Nat} {e r : Int} (h : LiveP w W [pT (.slice A n c) 128 N, pBlk w.heap.size #[.bool neg, .slice A n c, .int .i64 t, .int .i64 f] 56] ∧ w.heap.size < (W).heap.size ∧ (W).cell? ⟨w.heap.size, 0, none⟩ = some (.bool neg) ∧ (W).cell? ⟨w.heap.size, 1, none⟩ = some (.slice A n c) ∧ (W).cell? ⟨w.heap.size, 2, none⟩ = some (.int .i64 t) ∧ (W).cell? ⟨w.heap.size, 3, none⟩ = some (.int .i64 f)) (ht : -5000 ≤ t ∧ t ≤ 5000) (hf : -5000 ≤ f ∧ f ≤ 5000) (he : -5000 ≤ e ∧ e ≤ 5000) (hv : IsT W (.slice A2 n2 c2) 128 m) (hr : exC N t f m e 0 = r) :
    Calls Tryz.prog 126 #[.agg #[.bool neg, .slice A n c, .int .i64 t, .int .i64 f], .agg #[.bool false, .slice A2 n2 c2, .int .i64 e, .int .i64 0]] W fun x w' => x = .returned (.int .i64 r) ∧ Below W.heap.size W w' := by
  subst hr
  exact xcmp_any neg false t e f 0 (h.1.get (P := pT (.slice A n c) 128 N) (by repeat (first | exact List.mem_cons_self | apply List.mem_cons_of_mem))) hv ht he hf (by omega)
end
theorem wi_cases {id : Int} {key m : Nat} {e : Int} (N : Nat) (t f : Int) (he : 0 ≤ (2000 : Int) + e) (hm : m * 2 ^ ((2000 : Int) + e).toNat = uN (fK id).toNat (fW id).toNat (fM id).toNat (fB id).toNat (2 * key + 1)) :
    (exC N t f m e 0 = -1 ∧ wiF id (exP N t f) (exQ t f) key = true) ∨ (exC N t f m e 0 = 0 ∧ wiF id (exP N t f) (exQ t f) key = (key % 2 == 0)) ∨ (exC N t f m e 0 = 1 ∧ wiF id (exP N t f) (exQ t f) key = false) := by
  obtain ⟨a, b⟩ := exC_wi (kd := (fK id).toNat) (wd := (fW id).toNat) (mn := (fM id).toNat) (bs := (fB id).toNat) (key := key) (N := N) (t := t) (f := f) he hm
  have hc : exC N t f m e 0 = -1 ∨ exC N t f m e 0 = 0 ∨ exC N t f m e 0 = 1 := by
    unfold exC
    rcases cmpV_cases ((exP N t f * exQ e 0 : Nat) : Int) ((exP m e 0 * exQ t f : Nat) : Int) with ⟨_, h⟩ | ⟨_, h⟩ | ⟨_, h⟩ <;> rw [h] <;> decide
  unfold wiF wiN
  rcases hc with h | h | h
  · refine .inl ⟨h, ?_⟩
    rw [decide_eq_true (a.1 (by omega))]; rfl
  · refine .inr (.inl ⟨h, ?_⟩)
    rw [decide_eq_true (b.1 h), decide_eq_false (fun h' => by have := a.2 h'; omega)]
    simp
  · refine .inr (.inr ⟨h, ?_⟩)
    rw [decide_eq_false (fun h' => by have := a.2 h'; omega), decide_eq_false (fun h' => by have := b.2 h'; omega)]
    rfl
theorem and_one (key : Nat) (h : key < 18446744073709551616) : bits BinOp.and IntKind.u64 (key : Int) 1 = ((key % 2 : Nat) : Int) := by
  have := bits_and_u64_nat key 1 h (by decide)
  rw [Nat.and_one_is_mod] at this
  exact this
set_option maxRecDepth 100000 in
set_option maxHeartbeats 4000000 in
theorem within_any (id : Int) (h1 : 1 ≤ id) (h2 : id < 15) (neg : Bool) {A : Option Addr} {n c N : Nat} (t f : Int) (key : Nat) (hk : (key : Int) ≤ fitM id) {w : World} (hW : VaW w) (h : IsT w (.slice A n c) 128 N) (ht : -5000 ≤ t ∧ t ≤ 5000) (hf : -5000 ≤ f ∧ f ≤ 5000) :
    Calls Tryz.prog 91 #[.int .i64 id, .agg #[.bool neg, .slice A n c, .int .i64 t, .int .i64 f], .int .u64 key] w fun e w' => e = .returned (.bool (wiF id (exP N t f) (exQ t f) key)) ∧ Below w.heap.size w w' := by
  obtain ⟨a1, a2, a3, a4, a5, a6⟩ := mag_range h1 h2 hk
  have hkb : key < 18446744073709551616 := by have := (mag_half h1 h2 hk).word; omega
  obtain ⟨m, e, hm⟩ : ∃ m e, magV id 1 (2 * key + 1) = (m, e) := ⟨_, _, rfl⟩
  rw [hm] at a3 a4 a5 a6
  have hcs := wi_cases N t f a5 a6
  obtain ⟨r, hr⟩ : ∃ r, exC N t f m e 0 = r := ⟨_, rfl⟩
  obtain ⟨wi, hwi⟩ : ∃ b, wiF id (exP N t f) (exQ t f) key = b := ⟨_, rfl⟩
  rw [hr, hwi] at hcs
  rw [hwi]
  have he : -5000 ≤ e ∧ e ≤ 5000 := ⟨a3, a4⟩
  have hb0 := (Below.refl w.heap.size w).alloc (Nat.le_refl _) (.cells #[.bool neg, .slice A n c, .int .i64 t, .int .i64 f] 56)
  have hL := (((LiveP.start w).go hb0).put (pBlk_st _ _ _) (pBlk_made w #[.bool neg, .slice A n c, .int .i64 t, .int .i64 f] 56)).put (pT_st (.slice A n c) 128 N) (h.below hb0)
  have hS0 := boxW (hL.go (Below.refl _ _).drew)
  obtain ⟨-, hlt, d0, d1, d2, d3⟩ := boxW hL
  have han := and_one key hkb
  clear a1 a2 a3 a4 a5 a6 hwi h hb0 hL
  replace hm := Lib.hid hm
  replace hr := Lib.hid hr
  replace ht := Lib.hid ht
  replace hf := Lib.hid hf
  replace he := Lib.hid he
  replace hk := Lib.hid hk
  have hpar := Lib.hid (show (((key % 2 : Nat) : Int) == 0) = (key % 2 == 0) by rw [Bool.eq_iff_iff, beq_iff_eq, beq_iff_eq]; omega)
  rcases hcs with ⟨rfl, rfl⟩ | ⟨rfl, rfl⟩ | ⟨rfl, rfl⟩
  all_goals
    replace han := Lib.hid han
    go_enter Tryz.func91, Tryz.ntmps91
    go_wp2_with fail
    go_region_held3 (fun w' => LiveP w w' [pT (.slice A n c) 128 N, pBlk w.heap.size #[.bool neg, .slice A n c, .int .i64 t, .int .i64 f] 56] ∧ w.heap.size < (w').heap.size ∧ (w').cell? ⟨w.heap.size, 0, none⟩ = some (.bool neg) ∧ (w').cell? ⟨w.heap.size, 1, none⟩ = some (.slice A n c) ∧ (w').cell? ⟨w.heap.size, 2, none⟩ = some (.int .i64 t) ∧ (w').cell? ⟨w.heap.size, 3, none⟩ = some (.int .i64 f)) (first | exact hS0 | with_reducible assumption | exact keepW (by with_reducible assumption) (by with_reducible assumption))
      (first
        | (go_at_call 127; with_reducible refine (bhW hW h1 h2 hk.out hm.out (by with_reducible assumption)).mono ?_; rintro x w4 ⟨A4, n4, c4, rfl, hv4, hb4⟩)
        | (go_at_call 126; with_reducible refine (cmW (by with_reducible assumption) ht.out hf.out he.out hv4 hr.out).mono ?_; rintro x w5 ⟨rfl, hb5⟩))
    have hq : LiveP w w5 [pT (.slice A n c) 128 N, pBlk w.heap.size #[.bool neg, .slice A n c, .int .i64 t, .int .i64 f] 56] ∧ w.heap.size < (w5).heap.size ∧ (w5).cell? ⟨w.heap.size, 0, none⟩ = some (.bool neg) ∧ (w5).cell? ⟨w.heap.size, 1, none⟩ = some (.slice A n c) ∧ (w5).cell? ⟨w.heap.size, 2, none⟩ = some (.int .i64 t) ∧ (w5).cell? ⟨w.heap.size, 3, none⟩ = some (.int .i64 f) := by with_reducible assumption
    go_wp2
    (try rw [han.out, hpar.out])
    go_ret
    exact ⟨rfl, hq.1.below⟩
end Go.Proofs.YtdlkfnkmdlcekaaGreatDoor
namespace Go.Proofs.YtdlkfnkmdlcekaaGreatDoor
open Go.RowKit Go.Cal
theorem rzero_any (neg : Bool) {A : Option Addr} {n c k N : Nat} (t f : Int) {w : World} (h : IsT w (.slice A n c) k N) :
    Calls Tryz.prog 57 #[.agg #[.bool neg, .slice A n c, .int .i64 t, .int .i64 f]] w fun e w' => e = .returned (.bool (decide (N = 0))) ∧ Below w.heap.size w w' := by
  have hd : decide (N = 0) = ((n : Int) == 0) := by
    rw [Bool.eq_iff_iff, beq_iff_eq, decide_eq_true_iff]
    rcases isT_zero h with ⟨a, b⟩ | ⟨a, b⟩ <;> omega
  rw [hd]
  go_enter Tryz.func57, Tryz.ntmps57
  go_wp2
  go_ret
  exact ⟨rfl, (Below.refl _ _).alloc (Nat.le_refl _) _⟩
theorem most_fit {id : Int} {neg : Bool} (he : mostE id neg = 0) : mostV id neg ≤ fitM id ∧ mostR id neg = mostV id neg := by
  have h1 : mostR id neg = mostV id neg := by unfold mostR; rw [if_pos he]
  refine ⟨?_, h1⟩
  unfold mostV fitM
  by_cases h3 : fK id = 3
  · rw [if_pos h3]; split <;> omega
  · rw [if_neg h3, if_neg (fun h => h3 h.2)]
    exact Int.le_refl _
theorem most_wide {id : Int} {neg : Bool} (he : mostE id neg = 0) : (mostV id neg).toNat < 2 ^ (fW id).toNat ∧ 1 ≤ (fW id).toNat := by
  obtain ⟨h1, h2, h3⟩ := mostE_zero he
  obtain ⟨-, -, a, -, -, -, b⟩ := fo_nat h1 h2 neg
  exact ⟨b, by omega⟩
/-- What Nearest tells. -/
def nearV (id : Int) (neg : Bool) (P Q : Nat) : Int := if overB id neg P Q = true then mostV id neg else nearK id neg P Q
set_option maxRecDepth 100000 in
set_option maxHeartbeats 4000000 in
theorem nearest_any (id : Int) (neg : Bool) (he : mostE id neg = 0) {A : Option Addr} {n c N : Nat} (t f : Int) {w : World} (hW : VaW w) (h : IsT w (.slice A n c) 128 N) (ht : -5000 ≤ t ∧ t ≤ 5000) (hf : -5000 ≤ f ∧ f ≤ 5000) :
    Calls Tryz.prog 58 #[.int .i64 id, .bool neg, .agg #[.bool neg, .slice A n c, .int .i64 t, .int .i64 f]] w fun e w' => e = .returned (.tuple #[.int .u64 (nearV id neg (exP N t f) (exQ t f)), .bool (overB id neg (exP N t f) (exQ t f)), .int .i64 0]) ∧ Below w.heap.size w w' := by
  obtain ⟨h1, h2, h4⟩ := mostE_zero he
  obtain ⟨hmf, hmR⟩ := most_fit he
  obtain ⟨hmw, hw1⟩ := most_wide he
  obtain ⟨w1, w2, w3, w4, e1, e2, e3⟩ := fo_wide h1 h2
  have hwa : 1 ≤ fW id := by omega
  have hwb : fW id ≤ 64 := by omega
  replace e1 := Lib.hid e1
  clear e2 e3
  have hmb := mostV_bnd id neg
  have hmo := fun w hW => vmost_any id neg w hW
  rw [he, hmR] at hmo
  obtain ⟨mN, hmN⟩ : ∃ m : Nat, mostV id neg = (m : Int) := ⟨(mostV id neg).toNat, by omega⟩
  have hmt : (mostV id neg).toNat = mN := by omega
  obtain ⟨P, hP⟩ : ∃ P, exP N t f = P := ⟨_, rfl⟩
  obtain ⟨Q, hQ⟩ : ∃ Q, exQ t f = Q := ⟨_, rfl⟩
  have hwn := fun (W : World) (hW : VaW W) (hv : IsT W (.slice A n c) 128 N) (key : Nat) (hk : (key : Int) ≤ fitM id) => within_any id h1 h2 neg t f key hk hW hv ht hf
  rw [hP, hQ] at hwn ⊢
  have hov : overB id neg P Q = !wiF id P Q mN := by unfold overB; rw [hmt]
  have hnk : nearK id neg P Q = if fK id = 1 ∧ seek (wiF id P Q) mN (fW id).toNat 0 = 0 ∧ P ≠ 0 then 1 else seek (wiF id P Q) mN (fW id).toNat 0 := by unfold nearK; rw [hmt]
  have hP0 : P = 0 ↔ N = 0 := by
    rw [← hP]
    constructor
    · intro h0
      rcases Nat.eq_zero_or_pos N with h3 | h3
      · exact h3
      · have := exP_pos t f h3; omega
    · intro h0; rw [h0]; exact exP_zero t f
  have hnv : nearV id neg P Q = if (!wiF id P Q mN) = true then (mN : Int) else ((nearK id neg P Q : Nat) : Int) := by unfold nearV; rw [hov, hmN]
  rw [hnv, hov]
  rw [hmN] at hmo hmf hmb
  have hrt := Lib.hid (fun (W : World) (hv : IsT W (.slice A n c) 128 N) => xright_yes neg t f hv ht hf)
  have hb0 := (Below.refl w.heap.size w).alloc (Nat.le_refl _) (.cells #[.bool neg, .slice A n c, .int .i64 t, .int .i64 f] 56)
  have hL := (((LiveP.start w).go hb0).put (pBlk_st _ _ _) (pBlk_made w #[.bool neg, .slice A n c, .int .i64 t, .int .i64 f] 56)).put (pT_st (.slice A n c) 128 N) (h.below hb0)
  replace hmo := Lib.hid hmo
  replace hwn := Lib.hid hwn
  obtain ⟨Wn, hWn⟩ : ∃ W, (fW id).toNat = W := ⟨_, rfl⟩
  rw [hWn] at hnk hmw hw1 w1
  have hbit := Lib.hid (show IntKind.u64.wrap ((2 : Int) ^ (Wn - 1)) = ((2 ^ (Wn - 1) : Nat) : Int) by
    have h3 : 2 ^ (Wn - 1) ≤ 2 ^ 63 := Nat.pow_le_pow_right (by decide) (by omega)
    have e5 : (2 : Int) ^ (Wn - 1) = ((2 ^ (Wn - 1) : Nat) : Int) := by push_cast; rfl
    rw [e5, wrap_u64]
    generalize 2 ^ (Wn - 1) = x at h3 ⊢
    omega)
  have hhalf := Lib.hid (show 2 ^ Wn / 2 = 2 ^ (Wn - 1) by
    obtain ⟨y, rfl⟩ : ∃ y, Wn = y + 1 := ⟨Wn - 1, by omega⟩
    rw [Nat.pow_succ, show y + 1 - 1 = y by omega]
    omega)
  have hpw := Lib.hid (show 2 ^ Wn ≤ 18446744073709551616 from Nat.pow_le_pow_right (n := 2) (by decide) w1)
  clear hov hnv hmt hmR h hb0 he hP hQ
  cases hwm : wiF id P Q mN with
  | false =>
    simp only [Bool.not_false, if_true]
    have hwm' := Lib.hid hwm
    go_enter Tryz.func58, Tryz.ntmps58
    go_wp2_with fail
    refine (hmo.out _ (hW.below hL.below)).mono ?_
    rintro e u1 ⟨rfl, hb1⟩
    replace hL := hL.go hb1
    obtain ⟨r0, r1, r2, r3⟩ := cells4 (hL.get (P := pBlk w.heap.size #[.bool neg, .slice A n c, .int .i64 t, .int .i64 f] 56) (by repeat (first | exact List.mem_cons_self | apply List.mem_cons_of_mem)))
    go_wp2_with fail
    refine (hrt.out _ (hL.get (P := pT (.slice A n c) 128 N) (by repeat (first | exact List.mem_cons_self | apply List.mem_cons_of_mem)))).mono ?_
    rintro e u2 ⟨rfl, hb2⟩
    replace hL := hL.go hb2
    clear r0 r1 r2 r3
    obtain ⟨r0, r1, r2, r3⟩ := cells4 (hL.get (P := pBlk w.heap.size #[.bool neg, .slice A n c, .int .i64 t, .int .i64 f] 56) (by repeat (first | exact List.mem_cons_self | apply List.mem_cons_of_mem)))
    go_wp2_with fail
    refine (hwn.out _ (hW.below hL.below) (hL.get (P := pT (.slice A n c) 128 N) (by repeat (first | exact List.mem_cons_self | apply List.mem_cons_of_mem))) mN hmf).mono ?_
    rintro e u3 ⟨rfl, hb3⟩
    replace hL := hL.go hb3
    rw [hwm'.out]
    go_wp2
    go_ret3
    exact ⟨rfl, hL.below⟩
  | true =>
    simp only [Bool.not_true, Bool.false_eq_true, if_false]
    have hwm' := Lib.hid hwm
    have hfo := Lib.hid (fun (W : World) (hW : VaW W) => fo_of id W hW.frm h1 h2)
    go_enter Tryz.func58, Tryz.ntmps58
    go_wp2_with fail
    refine (hmo.out _ (hW.below hL.below)).mono ?_
    rintro e u1 ⟨rfl, hb1⟩
    replace hL := hL.go hb1
    obtain ⟨r0, r1, r2, r3⟩ := cells4 (hL.get (P := pBlk w.heap.size #[.bool neg, .slice A n c, .int .i64 t, .int .i64 f] 56) (by repeat (first | exact List.mem_cons_self | apply List.mem_cons_of_mem)))
    go_wp2_with fail
    refine (hrt.out _ (hL.get (P := pT (.slice A n c) 128 N) (by repeat (first | exact List.mem_cons_self | apply List.mem_cons_of_mem)))).mono ?_
    rintro e u2 ⟨rfl, hb2⟩
    replace hL := hL.go hb2
    clear r0 r1 r2 r3
    obtain ⟨r0, r1, r2, r3⟩ := cells4 (hL.get (P := pBlk w.heap.size #[.bool neg, .slice A n c, .int .i64 t, .int .i64 f] 56) (by repeat (first | exact List.mem_cons_self | apply List.mem_cons_of_mem)))
    go_wp2_with fail
    refine (hwn.out _ (hW.below hL.below) (hL.get (P := pT (.slice A n c) 128 N) (by repeat (first | exact List.mem_cons_self | apply List.mem_cons_of_mem))) mN hmf).mono ?_
    rintro e u3 ⟨rfl, hb3⟩
    replace hL := hL.go hb3
    rw [hwm'.out]
    go_wp2_with fail
    refine (hfo.out _ (hW.below hL.below)).mono ?_
    rintro e u4 ⟨rfl, hb4⟩
    replace hL := hL.go hb4
    go_wp2_with fail
    rw [hbit.out]
    replace hL := (hL.go ((Below.refl _ _).alloc (Nat.le_refl _) (.cells #[.int .i64 (fK id), .int .i64 (fW id), .int .i64 (fM id), .int .i64 (fB id), .int .u64 (fT id), .int .u64 (fI id), .int .u64 (fN id)] 39))).put (pBlk_st _ _ _) (pBlk_made u4 #[.int .i64 (fK id), .int .i64 (fW id), .int .i64 (fM id), .int .i64 (fB id), .int .u64 (fT id), .int .u64 (fI id), .int .u64 (fN id)] 39)
    obtain ⟨K0, hK0⟩ : ∃ K, seek (wiF id P Q) mN Wn 0 = K := ⟨_, rfl⟩
    rw [hK0] at hnk
    replace hnk := Lib.hid hnk
    replace hP0 := Lib.hid hP0
    clear r0 r1 r2 r3 hb1 hb2 hb3 hb4
    obtain ⟨g4, hg4⟩ : ∃ g, u4.heap.size = g := ⟨_, rfl⟩
    rw [hg4] at hL ⊢
    go_loopg [13, 14, 15] Wn (fun g kv bv xv wr => ∃ key : Nat, kv = .int .u64 key ∧ bv = .int .u64 ((2 ^ g / 2 : Nat) : Int) ∧ seek (wiF id P Q) mN g key = K0 ∧ key ≤ mN ∧ key + 2 ^ g ≤ 18446744073709551616 ∧ LiveP w wr (pBlk g4 #[.int .i64 (fK id), .int .i64 (fW id), .int .i64 (fM id), .int .i64 (fB id), .int .u64 (fT id), .int .u64 (fI id), .int .u64 (fN id)] 39 :: [pT (.slice A n c) 128 N, pBlk w.heap.size #[.bool neg, .slice A n c, .int .i64 t, .int .i64 f] 56]))
    case atStart => exact ⟨0, rfl, by rw [hhalf.out], hK0, Nat.zero_le _, by rw [Nat.zero_add]; exact hpw.out, hL⟩
    case round =>
      obtain ⟨key, rfl, rfl, hsk, hkm, hk2, hLr⟩ := hrel
      obtain ⟨r0, r1, r2, r3⟩ := cells4 (hLr.get (P := pBlk w.heap.size #[.bool neg, .slice A n c, .int .i64 t, .int .i64 f] 56) (by repeat (first | exact List.mem_cons_self | apply List.mem_cons_of_mem)))
      have hq := hLr.get (P := pBlk g4 #[.int .i64 (fK id), .int .i64 (fW id), .int .i64 (fM id), .int .i64 (fB id), .int .u64 (fT id), .int .u64 (fI id), .int .u64 (fN id)] 39) (by repeat (first | exact List.mem_cons_self | apply List.mem_cons_of_mem))
      have s0 := hq.cell 0 _ rfl
      by_cases hg0 : gk = 0
      · subst hg0
        rw [show ((2 ^ 0 / 2 : Nat) : Int) = 0 from rfl]
        obtain rfl : key = K0 := hsk
        have hnc : (fK id == 1) = false ∧ nearK id neg P Q = key ∨ (fK id == 1) = true ∧ 0 < key ∧ nearK id neg P Q = key ∨ (fK id == 1) = true ∧ key = 0 ∧ decide (N = 0) = true ∧ nearK id neg P Q = 0 ∨ (fK id == 1) = true ∧ key = 0 ∧ decide (N = 0) = false ∧ nearK id neg P Q = 1 := by
          rw [hnk.out]
          by_cases k1 : fK id = 1
          · have k1' : (fK id == 1) = true := by simp [k1]
            by_cases k2 : key = 0
            · by_cases k3 : N = 0
              · exact .inr (.inr (.inl ⟨k1', k2, decide_eq_true k3, by rw [if_neg (fun h => h.2.2 (hP0.out.2 k3)), k2]⟩))
              · exact .inr (.inr (.inr ⟨k1', k2, decide_eq_false k3, by rw [if_pos ⟨k1, k2, fun h => k3 (hP0.out.1 h)⟩]⟩))
            · exact .inr (.inl ⟨k1', by omega, by rw [if_neg (fun h => k2 h.2.1)]⟩)
          · exact .inl ⟨by simp [k1], by rw [if_neg (fun h => k1 h.1)]⟩
        have hzr := Lib.hid (rzero_any neg t f (hLr.get (P := pT (.slice A n c) 128 N) (by repeat (first | exact List.mem_cons_self | apply List.mem_cons_of_mem))))
        clear hnk hP0 hwn hmo hfo hrt
        rcases hnc with ⟨k1, hn⟩ | ⟨k1, k2, hn⟩ | ⟨k1, rfl, k3, hn⟩ | ⟨k1, rfl, k3, hn⟩
        · replace hn := Lib.hid hn
          go_wp2
          rw [hn.out]
          go_ret3
          exact ⟨rfl, hLr.below⟩
        · replace hn := Lib.hid hn
          have k4 : ((key : Int) == 0) = false := by simp; omega
          go_wp2
          rw [hn.out]
          go_ret3
          exact ⟨rfl, hLr.below⟩
        · replace hn := Lib.hid hn
          replace k3 := Lib.hid k3
          go_wp2_with fail
          refine hzr.out.mono ?_
          rintro e u5 ⟨rfl, hb5⟩
          rw [k3.out]
          go_wp2
          rw [hn.out]
          go_ret3
          exact ⟨rfl, (hLr.go hb5).below⟩
        · replace hn := Lib.hid hn
          replace k3 := Lib.hid k3
          go_wp2_with fail
          refine hzr.out.mono ?_
          rintro e u5 ⟨rfl, hb5⟩
          rw [k3.out]
          go_wp2
          rw [hn.out]
          go_ret3
          exact ⟨rfl, (hLr.go hb5).below⟩
      · obtain ⟨k, rfl⟩ : ∃ k, gk = k + 1 := ⟨gk - 1, by omega⟩
        rw [show 2 ^ (k + 1) / 2 = 2 ^ k by rw [Nat.pow_succ]; omega]
        have hB2 : ((2 ^ k : Nat) : Int) / 2 = ((2 ^ k / 2 : Nat) : Int) := by push_cast; rfl
        have hBp := Nat.two_pow_pos k
        rw [Nat.pow_succ] at hk2
        unfold seek at hsk
        obtain ⟨B, hB⟩ : ∃ B, 2 ^ k = B := ⟨_, rfl⟩
        rw [hB] at hB2 hBp hk2 hsk ⊢
        replace hB2 := Lib.hid hB2
        replace hB := Lib.hid hB
        have hsub : (key : Int) + (B : Int) - 1 = ((key + B - 1 : Nat) : Int) := by omega
        replace hsub := Lib.hid hsub
        by_cases hle : key + B ≤ mN
        · cases hwb : wiF id P Q (key + B - 1) with
          | true =>
            rw [if_neg (fun h => by rw [hwb] at h; exact absurd h.2 (by decide))] at hsk
            replace hwb := Lib.hid hwb
            replace hsk := Lib.hid hsk
            go_wp2_with fail
            rw [hsub.out]
            refine (hwn.out _ (hW.below hLr.below) (hLr.get (P := pT (.slice A n c) 128 N) (by repeat (first | exact List.mem_cons_self | apply List.mem_cons_of_mem))) (key + B - 1) (by omega)).mono ?_
            rintro e u5 ⟨rfl, hb5⟩
            rw [hwb.out]
            go_wp2
            go_roundg k
            case measure => omega
            case rel => exact ⟨key, rfl, by rw [hB2.out, hB.out], hsk.out, hkm, by rw [hB.out]; omega, hLr.go hb5⟩
          | false =>
            rw [if_pos ⟨hle, hwb⟩] at hsk
            replace hwb := Lib.hid hwb
            replace hsk := Lib.hid hsk
            go_wp2_with fail
            rw [hsub.out]
            refine (hwn.out _ (hW.below hLr.below) (hLr.get (P := pT (.slice A n c) 128 N) (by repeat (first | exact List.mem_cons_self | apply List.mem_cons_of_mem))) (key + B - 1) (by omega)).mono ?_
            rintro e u5 ⟨rfl, hb5⟩
            rw [hwb.out]
            go_wp2
            go_roundg k
            case measure => omega
            case rel => exact ⟨key + B, by push_cast; rfl, by rw [hB2.out, hB.out], hsk.out, hle, by rw [hB.out]; omega, hLr.go hb5⟩
        · rw [if_neg (fun h => hle h.1)] at hsk
          replace hsk := Lib.hid hsk
          have hle1 : ¬ (key : Int) + (B : Int) ≤ (mN : Int) := by omega
          have hle2 : decide ((key : Int) + (B : Int) ≤ (mN : Int)) = false := decide_eq_false hle1
          go_wp2
          go_roundg k
          case measure => omega
          case rel => exact ⟨key, rfl, by rw [hB2.out, hB.out], hsk.out, hkm, by rw [hB.out]; omega, hLr⟩
end Go.Proofs.YtdlkfnkmdlcekaaGreatDoor
