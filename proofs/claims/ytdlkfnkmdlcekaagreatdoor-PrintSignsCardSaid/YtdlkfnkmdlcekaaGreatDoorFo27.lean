/- Values: At, Between, Pattern, walked. Conditions: the variables that values read. -/
/- Values: Pattern, walked. Conditions: the variables that values read. -/
import Derived.Test.YtdlkfnkmdlcekaaGreatDoorFo26
namespace Go.Proofs.YtdlkfnkmdlcekaaGreatDoor
open Go.RowKit Go.Cal
theorem pBlk_keep {g h : Nat} {cs : Array Value} {t : TypeId} {w w' : World} (hp : pBlk g cs t w) (hb : Below h w w') (hg : g < h) : pBlk g cs t w' := by
  unfold pBlk
  rw [hb.block g hg]
  exact hp
def fitM (id : Int) : Int := if fK id = 3 then fT id + 1 else fT id
theorem fitM_cases {id : Int} (h1 : 1 ≤ id) (h2 : id < 15) : ((fK id == 3) = true ∧ 0 ≤ fT id ∧ fT id ≤ 127 ∧ fitM id = fT id + 1) ∨ ((fK id == 3) = false ∧ fitM id = fT id) := by
  rcases id_cases h1 h2 with rfl | rfl | rfl | rfl | rfl | rfl | rfl | rfl | rfl | rfl | rfl | rfl | rfl | rfl <;> decide +kernel
set_option maxRecDepth 100000 in
set_option maxHeartbeats 1000000 in
theorem vfits_yes (id : Int) (h1 : 1 ≤ id) (h2 : id < 15) (key : Int) (hk : key ≤ fitM id) (w : World) (hW : VaW w) :
    Calls Tryz.prog 65 #[.int .i64 id, .int .u64 key] w fun e w' => e = .returned (.tuple #[.agg #[.int .i64 (fK id), .int .i64 (fW id), .int .i64 (fM id), .int .i64 (fB id), .int .u64 (fT id), .int .u64 (fI id), .int .u64 (fN id), .func (.func (numI (fK id))) #[] #[]], .int .i64 0]) ∧ Below w.heap.size w w' := by
  have hfn := Lib.hid (fun w hW => vof_yes id h1 h2 w hW)
  rcases fitM_cases h1 h2 with ⟨h3, hT, hT', hM⟩ | ⟨h3, hM⟩
  all_goals
    rw [hM] at hk
    have hng : ¬ key > fT id + 1 ∨ ¬ key > fT id := by omega
    clear hM hng
    go_enter Tryz.func65, Tryz.ntmps65
    go_wp2_with fail
    refine (hfn.out _ (hW.below ((Below.refl _ _).alloc (Nat.le_refl _) _))).mono ?_
    rintro e w1 ⟨rfl, hb⟩
    have hz := hb.size
    simp at hz
    have hB : Below w.heap.size w w1 := ((Below.refl _ _).alloc (Nat.le_refl _) _).trans (hb.mono (by simp))
    have hp1 := pBlk_st _ _ _ _ _ (pBlk_st _ _ _ _ _ (pBlk_made w #[.int .i64 0, .int .i64 0, .int .i64 0, .int .i64 0, .int .u64 0, .int .u64 0, .int .u64 0, .nilFunc] 78) hb) ((Below.refl _ _).alloc (Nat.le_refl _) (.cells #[.int .i64 0, .int .i64 0, .int .i64 0, .int .i64 0, .int .u64 0, .int .u64 0, .int .u64 0, .nilFunc] 78))
    go_wp2_with (first
      | ((with_reducible show wpList _ _ _ (Oper.mk _ (Op.store 78 _ _) _ _ _ _ :: _) _ _); refine wpList_store_whole _ rfl 78 _ _ rfl w1.heap.size #[.int .i64 (fK id), .int .i64 (fW id), .int .i64 (fM id), .int .i64 (fB id), .int .u64 (fT id), .int .u64 (fI id), .int .u64 (fN id), .func (.func (numI (fK id))) #[] #[]] #[.int .i64 0, .int .i64 0, .int .i64 0, .int .i64 0, .int .u64 0, .int .u64 0, .int .u64 0, .nilFunc] 78 rfl rfl (pBlk_made w1 #[.int .i64 0, .int .i64 0, .int .i64 0, .int .i64 0, .int .u64 0, .int .u64 0, .int .u64 0, .nilFunc] 78) shape_size rfl (by simp [Value.oneCell']) ?_; intro w2 hp2 hb2 hz2; obtain ⟨r0, r1, r2, r3, r4, r5, r6, r7⟩ := cells8 hp2; have hp0 := pBlk_keep hp1 hb2 (by omega))
      | ((with_reducible show wpList _ _ _ (Oper.mk _ (Op.store 78 _ _) _ _ _ _ :: _) _ _); refine wpList_store_whole _ rfl 78 _ _ rfl w.heap.size #[.int .i64 (fK id), .int .i64 (fW id), .int .i64 (fM id), .int .i64 (fB id), .int .u64 (fT id), .int .u64 (fI id), .int .u64 (fN id), .func (.func (numI (fK id))) #[] #[]] #[.int .i64 0, .int .i64 0, .int .i64 0, .int .i64 0, .int .u64 0, .int .u64 0, .int .u64 0, .nilFunc] 78 rfl rfl hp0 shape_size rfl (by simp [Value.oneCell']) ?_; intro w3 hp3 hb3 hz3; obtain ⟨s0, s1, s2, s3, s4, s5, s6, s7⟩ := cells8 hp3))
    have hB3 : Below w.heap.size w w3 := ((hB.alloc hB.size _).trans (hb2.mono hB.size)).trans hb3
    exact bodyPost_ret (v := .tuple #[.agg #[.int .i64 (fK id), .int .i64 (fW id), .int .i64 (fM id), .int .i64 (fB id), .int .u64 (fT id), .int .u64 (fI id), .int .u64 (fN id), .func (.func (numI (fK id))) #[] #[]], .int .i64 0]) (by simp [results, Tryz.results65, go_sem, s0, s1, s2, s3, s4, s5, s6, s7]) rfl ⟨rfl, hB3⟩
theorem numI_cases (k : Int) : numI k = 206 ∨ numI k = 208 ∨ numI k = 210 ∨ numI k = 212 := by
  unfold numI
  split
  · exact .inl rfl
  · split
    · exact .inr (.inl rfl)
    · split
      · exact .inr (.inr (.inl rfl))
      · exact .inr (.inr (.inr rfl))
theorem mag_tab {id : Int} (h1 : 1 ≤ id) (h2 : id < 15) : 0 ≤ fitM id ∧ 2 * (fitM id).toNat + 1 < 18446744073709551616 ∧ (fK id = 1 → 2 * (fitM id).toNat + 1 < 2 ^ ((fW id).toNat + 1 - 1) ∧ (fitM id).toNat < 2 ^ ((fW id).toNat + 0 - 1)) ∧
    (fK id = 2 → (2 * (fitM id).toNat + 1) / 2 ^ ((fM id).toNat + 1) ≤ 4095 ∧ (fitM id).toNat / 2 ^ ((fM id).toNat + 0) ≤ 4095) ∧ (fK id = 4 → 2 * (fitM id).toNat + 1 < 10000) := by
  rcases id_cases h1 h2 with rfl | rfl | rfl | rfl | rfl | rfl | rfl | rfl | rfl | rfl | rfl | rfl | rfl | rfl <;> decide +kernel
theorem mag_half {id : Int} {key : Nat} (h1 : 1 ≤ id) (h2 : id < 15) (hk : (key : Int) ≤ fitM id) : MagOk id 1 (2 * key + 1) := by
  obtain ⟨a, b, c, d, e⟩ := mag_tab h1 h2
  have hk' : key ≤ (fitM id).toNat := by omega
  refine ⟨by decide, by omega, fun h => ⟨by omega, by have := (c h).1; omega⟩, fun h => ?_, fun h => by have := e h; omega⟩
  exact Nat.le_trans (Nat.div_le_div_right (by omega)) (d h).1
theorem mag_own {id : Int} {key : Nat} (h1 : 1 ≤ id) (h2 : id < 15) (hk : (key : Int) ≤ fitM id) (h0 : fK id = 1 → 0 < key) : MagOk id 0 key := by
  obtain ⟨a, b, c, d, e⟩ := mag_tab h1 h2
  have hk' : key ≤ (fitM id).toNat := by omega
  refine ⟨by decide, by omega, fun h => ⟨h0 h, by have := (c h).2; omega⟩, fun h => ?_, fun h => by have := e h; omega⟩
  exact Nat.le_trans (Nat.div_le_div_right (by omega)) (d h).2
set_option maxRecDepth 100000 in
set_option maxHeartbeats 1000000 in
theorem vbetween_any (id : Int) (h1 : 1 ≤ id) (h2 : id < 15) (key : Nat) (hk : (key : Int) ≤ fitM id) (w : World) (hW : VaW w) :
    Calls Tryz.prog 154 #[.int .i64 id, .int .u64 key] w fun e w' => e = .returned (.tuple #[.int .u64 ((magV id 1 (2 * key + 1)).1 : Nat), .int .i64 (magV id 1 (2 * key + 1)).2, .int .i64 0]) ∧ Below w.heap.size w w' := by
  have hft := Lib.hid (fun w hW => vfits_yes id h1 h2 key hk w hW)
  have hok := mag_half h1 h2 hk
  have hlt := hok.word
  have hnm := fun w hW => num_any id h1 h2 1 (2 * key + 1) 1 (2 * key + 1) rfl (by push_cast; rfl) hok w hW
  generalize magV id 1 (2 * key + 1) = p at hnm ⊢
  obtain ⟨mv, ev⟩ := p
  clear hok hk
  rcases numI_cases (fK id) with hI | hI | hI | hI
  all_goals
    rw [hI] at hnm hft
    replace hnm := Lib.hid hnm
    go_enter Tryz.func154, Tryz.ntmps154
    go_wp2_with fail
    refine (hft.out _ hW).mono ?_
    rintro e w1 ⟨rfl, hb⟩
    go_wp2_with (first | ((with_reducible show wpList _ _ _ (Oper.mk _ (Op.store 78 _ _) _ _ _ _ :: _) _ _); refine wpList_store_whole _ rfl 78 _ _ rfl (w1).heap.size _ #[.int .i64 0, .int .i64 0, .int .i64 0, .int .i64 0, .int .u64 0, .int .u64 0, .int .u64 0, .nilFunc] 78 rfl rfl (pBlk_made w1 #[.int .i64 0, .int .i64 0, .int .i64 0, .int .i64 0, .int .u64 0, .int .u64 0, .int .u64 0, .nilFunc] 78) shape_size rfl (by simp [Value.oneCell']) ?_; intro w2 hp2 hb2 hz2; obtain ⟨r0, r1, r2, r3, r4, r5, r6, r7⟩ := cells8 hp2))
    have hB : Below w.heap.size w w2 := (hb.alloc hb.size _).trans (hb2.mono hb.size)
    refine (hnm.out _ (hW.below hB)).mono ?_
    rintro e w3 ⟨rfl, hb3⟩
    go_wp2
    go_ret3
    exact ⟨rfl, hB.trans (hb3.mono hB.size)⟩
set_option maxRecDepth 100000 in
set_option maxHeartbeats 1000000 in
theorem vat_any (id : Int) (h1 : 1 ≤ id) (h2 : id < 15) (key : Nat) (hk : (key : Int) ≤ fitM id) (w : World) (hW : VaW w) :
    Calls Tryz.prog 32 #[.int .i64 id, .int .u64 key] w fun e w' => e = .returned (.tuple #[.int .u64 (if key = 0 ∧ fK id ≠ 4 then 0 else ((magV id 0 key).1 : Nat)), .int .i64 (if key = 0 ∧ fK id ≠ 4 then 0 else (magV id 0 key).2), .int .i64 0]) ∧ Below w.heap.size w w' := by
  have hft := Lib.hid (fun w hW => vfits_yes id h1 h2 key hk w hW)
  by_cases h0 : key = 0 ∧ fK id ≠ 4
  · rw [if_pos h0, if_pos h0]
    obtain ⟨h0, h4⟩ := h0
    subst h0
    have h4' : (fK id == 4) = false := by simp [h4]
    have h4'' : (fK id != 4) = true := by simp [h4]
    replace h4 := Lib.hid h4
    clear hk
    go_enter Tryz.func32, Tryz.ntmps32
    go_wp2_with fail
    refine (hft.out _ hW).mono ?_
    rintro e w1 ⟨rfl, hb⟩
    go_wp2_with ((with_reducible show wpList _ _ _ (Oper.mk _ (Op.store 78 _ _) _ _ _ _ :: _) _ _); refine wpList_store_whole _ rfl 78 _ _ rfl (w1).heap.size #[.int .i64 (fK id), .int .i64 (fW id), .int .i64 (fM id), .int .i64 (fB id), .int .u64 (fT id), .int .u64 (fI id), .int .u64 (fN id), .func (.func (numI (fK id))) #[] #[]] #[.int .i64 0, .int .i64 0, .int .i64 0, .int .i64 0, .int .u64 0, .int .u64 0, .int .u64 0, .nilFunc] 78 rfl rfl (pBlk_made w1 #[.int .i64 0, .int .i64 0, .int .i64 0, .int .i64 0, .int .u64 0, .int .u64 0, .int .u64 0, .nilFunc] 78) shape_size rfl (by simp [Value.oneCell']) ?_; intro w2 hp2 hb2 hz2; obtain ⟨r0, r1, r2, r3, r4, r5, r6, r7⟩ := cells8 hp2)
    go_ret3
    exact ⟨rfl, (hb.alloc hb.size _).trans (hb2.mono hb.size)⟩
  · rw [if_neg h0, if_neg h0]
    have hok := mag_own h1 h2 hk (fun h => by
      rcases Nat.eq_zero_or_pos key with h3 | h3
      · exact absurd ⟨h3, by omega⟩ h0
      · exact h3)
    have hlt := hok.word
    have hnm := fun w hW ky hky => num_any id h1 h2 0 key 0 ky rfl hky hok w hW
    generalize magV id 0 key = p at hnm ⊢
    obtain ⟨mv, ev⟩ := p
    have hkc : ((key : Int) == 0) = false ∨ (key = 0 ∧ (fK id != 4) = false) := by
      by_cases h3 : key = 0
      · right; refine ⟨h3, ?_⟩; simp; exact Classical.byContradiction fun h => h0 ⟨h3, h⟩
      · left; simp; exact h3
    clear hok hk h0
    rcases hkc with hkc | ⟨rfl, hkc⟩
    all_goals
      rcases numI_cases (fK id) with hI | hI | hI | hI
      all_goals
        rw [hI] at hnm hft
        replace hnm := Lib.hid hnm
        go_enter Tryz.func32, Tryz.ntmps32
        go_wp2_with fail
        refine (hft.out _ hW).mono ?_
        rintro e w1 ⟨rfl, hb⟩
        go_wp2_with (first | ((with_reducible show wpList _ _ _ (Oper.mk _ (Op.store 78 _ _) _ _ _ _ :: _) _ _); refine wpList_store_whole _ rfl 78 _ _ rfl (w1).heap.size _ #[.int .i64 0, .int .i64 0, .int .i64 0, .int .i64 0, .int .u64 0, .int .u64 0, .int .u64 0, .nilFunc] 78 rfl rfl (pBlk_made w1 #[.int .i64 0, .int .i64 0, .int .i64 0, .int .i64 0, .int .u64 0, .int .u64 0, .int .u64 0, .nilFunc] 78) shape_size rfl (by simp [Value.oneCell']) ?_; intro w2 hp2 hb2 hz2; obtain ⟨r0, r1, r2, r3, r4, r5, r6, r7⟩ := cells8 hp2))
        have hB : Below w.heap.size w w2 := (hb.alloc hb.size _).trans (hb2.mono hb.size)
        refine (hnm.out _ (hW.below hB) _ (by first | rfl | simp)).mono ?_
        rintro e w3 ⟨rfl, hb3⟩
        go_wp2
        go_ret3
        exact ⟨rfl, hB.trans (hb3.mono hB.size)⟩
end Go.Proofs.YtdlkfnkmdlcekaaGreatDoor
namespace Go.Proofs.YtdlkfnkmdlcekaaGreatDoor
open Go.RowKit Go.Cal
theorem pat_or (key : Int) (n : Nat) (hn : n ≤ 63) (h0 : 0 ≤ key) (h1 : key < 2 ^ n) : bits BinOp.or IntKind.u64 key (2 ^ n) = key + 2 ^ n := by
  obtain ⟨k, rfl⟩ := Int.eq_ofNat_of_zero_le h0
  have e1 : (2 : Int) ^ n = ((2 ^ n : Nat) : Int) := by push_cast; rfl
  rw [e1] at h1 ⊢
  have h3 : 2 ^ n ≤ 2 ^ 63 := Nat.pow_le_pow_right (by decide) hn
  have h2 : k < 2 ^ n := by exact_mod_cast h1
  rw [bits_or_u64_nat _ _ (by omega) (by omega), Nat.or_comm]
  have := Nat.two_pow_add_eq_or_of_lt h2 1
  rw [Nat.mul_one] at this
  rw [← this]
  push_cast
  omega
theorem pat_and (key : Int) (n : Nat) (hn : n ≤ 64) : bits BinOp.and IntKind.u64 (IntKind.u64.wrap (-key)) (2 ^ n - 1) = (-key) % 2 ^ n := by
  obtain ⟨x, hx⟩ : ∃ x : Nat, (-key) % 18446744073709551616 = (x : Int) := ⟨((-key) % 18446744073709551616).toNat, by omega⟩
  have hxl : x < 18446744073709551616 := by omega
  have e1 : (2 : Int) ^ n - 1 = ((2 ^ n - 1 : Nat) : Int) := by
    have := Nat.one_le_two_pow (n := n)
    push_cast [this]; rfl
  have h3 : 2 ^ n ≤ 2 ^ 64 := Nat.pow_le_pow_right (by decide) hn
  have h4 := Nat.two_pow_pos n
  rw [wrap_u64, hx, e1, bits_and_u64_nat _ _ hxl (by omega), Nat.and_two_pow_sub_one_eq_mod]
  push_cast
  rw [← hx]
  have hd : (2 : Int) ^ n ∣ 18446744073709551616 := by
    refine ⟨2 ^ (64 - n), ?_⟩
    rw [← Int.pow_add, show n + (64 - n) = 64 by omega]
    rfl
  exact Int.emod_emod_of_dvd _ hd
set_option maxRecDepth 100000 in
set_option maxHeartbeats 1000000 in
theorem vpat_any (id : Int) (neg : Bool) (key : Int) (he : mostE id neg = 0) (h0 : 0 ≤ key) (hk : key ≤ mostV id neg) (w : World) (hW : VaW w) :
    Calls Tryz.prog 18 #[.int .i64 id, .bool neg, .int .u64 key] w fun e w' => e = .returned (.tuple #[.int .u64 (patV id neg key), .int .i64 0]) ∧ Below w.heap.size w w' := by
  obtain ⟨h1, h2, h4⟩ := mostE_zero he
  have hm := fun w hW => vmost_any id neg w hW
  have hR : mostR id neg = mostV id neg := by unfold mostR; rw [if_pos he]
  have hbn := mostV_bnd id neg
  rw [he, hR] at hm
  replace hm := Lib.hid hm
  have hfn := Lib.hid (fun w hW => vof_yes id h1 h2 w hW)
  obtain ⟨w1, w2, w3, w4, e1, e2, e3⟩ := fo_wide h1 h2
  have hkb : key < 18446744073709551616 := by omega
  obtain ⟨mv, hmv⟩ : ∃ mv, mostV id neg = mv := ⟨_, rfl⟩
  have hfT : fK id = 2 → mv < 2 ^ ((fW id).toNat - 1) := by
    intro h
    rw [← hmv]
    clear hm hfn hmv hkb hbn hR hk e1 e2 e3 w1 w2 w3 w4
    rcases id_cases h1 h2 with rfl | rfl | rfl | rfl | rfl | rfl | rfl | rfl | rfl | rfl | rfl | rfl | rfl | rfl <;> cases neg <;> first | decide +kernel | (exact absurd h (by decide))
  rw [hmv] at hm hk
  clear hR hbn hmv he
  cases neg with
  | false =>
    have hv : patV id false key = key := by unfold patV; rw [if_pos rfl]
    rw [hv]
    clear hv hfT h4 e1 e2 e3
    go_enter Tryz.func18, Tryz.ntmps18
    go_wp2_with fail
    refine (hm.out _ hW).mono ?_
    rintro e u1 ⟨rfl, hb⟩
    go_wp2_with fail
    refine (hfn.out _ (hW.below hb)).mono ?_
    rintro e u2 ⟨rfl, hb1⟩
    go_wp2_with ((with_reducible show wpList _ _ _ (Oper.mk _ (Op.store 78 _ _) _ _ _ _ :: _) _ _); refine wpList_store_whole _ rfl 78 _ _ rfl (u2).heap.size #[.int .i64 (fK id), .int .i64 (fW id), .int .i64 (fM id), .int .i64 (fB id), .int .u64 (fT id), .int .u64 (fI id), .int .u64 (fN id), .func (.func (numI (fK id))) #[] #[]] #[.int .i64 0, .int .i64 0, .int .i64 0, .int .i64 0, .int .u64 0, .int .u64 0, .int .u64 0, .nilFunc] 78 rfl rfl (pBlk_made u2 #[.int .i64 0, .int .i64 0, .int .i64 0, .int .i64 0, .int .u64 0, .int .u64 0, .int .u64 0, .nilFunc] 78) shape_size rfl (by simp [Value.oneCell']) ?_; intro w2 hp2 hb2 hz2; obtain ⟨r0, r1, r2, r3, r4, r5, r6, r7⟩ := cells8 hp2)
    go_ret2
    exact ⟨rfl, (((hb.trans (hb1.mono hb.size)).alloc (Nat.le_trans hb.size hb1.size) _).trans (hb2.mono (Nat.le_trans hb.size hb1.size)))⟩
  | true =>
    by_cases hK : fK id = 2
    · have hv : patV id true key = key + 2 ^ ((fW id).toNat - 1) := by unfold patV; rw [if_neg (by decide), if_pos hK]
      have hor := Lib.hid (pat_or key ((fW id).toNat - 1) (by omega) h0 (by have := hfT hK; omega))
      have hsg := Lib.hid (fun w => fo_sign (fK id) (fW id) (fM id) (fB id) (fT id) (fI id) (fN id) w (by omega) (by omega) (by omega))
      have hK' : (fK id == 2) = true := by simp [hK]
      rw [hv]
      replace hK := Lib.hid hK
      clear hv hfT h4 e1 e2 e3
      go_enter Tryz.func18, Tryz.ntmps18
      go_wp2_with fail
      refine (hm.out _ hW).mono ?_
      rintro e u1 ⟨rfl, hb⟩
      go_wp2_with fail
      refine (hfn.out _ (hW.below hb)).mono ?_
      rintro e u2 ⟨rfl, hb1⟩
      go_wp2_with (first | ((with_reducible show wpList _ _ _ (Oper.mk _ (Op.store 78 _ _) _ _ _ _ :: _) _ _); refine wpList_store_whole _ rfl 78 _ _ rfl (u2).heap.size _ #[.int .i64 0, .int .i64 0, .int .i64 0, .int .i64 0, .int .u64 0, .int .u64 0, .int .u64 0, .nilFunc] 78 rfl rfl (pBlk_made u2 #[.int .i64 0, .int .i64 0, .int .i64 0, .int .i64 0, .int .u64 0, .int .u64 0, .int .u64 0, .nilFunc] 78) shape_size rfl (by simp [Value.oneCell']) ?_; intro w2 hp2 hb2 hz2; obtain ⟨r0, r1, r2, r3, r4, r5, r6, r7⟩ := cells8 hp2))
      refine (hsg.out _).mono ?_
      rintro e u3 ⟨rfl, hb3⟩
      go_wp2
      rw [hor.out]
      go_ret2
      have hs := Nat.le_trans hb.size hb1.size
      exact ⟨rfl, ((((hb.trans (hb1.mono hb.size)).alloc hs _).trans (hb2.mono hs))).trans (hb3.mono (by simp at hz2; omega))⟩
    · have hv : patV id true key = (-key) % 2 ^ (fW id).toNat := by unfold patV; rw [if_neg (by decide), if_neg hK]
      have han := Lib.hid (pat_and key (fW id).toNat w1)
      have hsg := Lib.hid (fun w => fo_mask (fK id) (fW id) (fM id) (fB id) (fT id) (fI id) (fN id) w (by omega) (by omega))
      have hK' : (fK id == 2) = false := by simp [hK]
      rw [hv]
      replace hK := Lib.hid hK
      clear hv hfT h4 e1 e2 e3
      go_enter Tryz.func18, Tryz.ntmps18
      go_wp2_with fail
      refine (hm.out _ hW).mono ?_
      rintro e u1 ⟨rfl, hb⟩
      go_wp2_with fail
      refine (hfn.out _ (hW.below hb)).mono ?_
      rintro e u2 ⟨rfl, hb1⟩
      go_wp2_with (first | ((with_reducible show wpList _ _ _ (Oper.mk _ (Op.store 78 _ _) _ _ _ _ :: _) _ _); refine wpList_store_whole _ rfl 78 _ _ rfl (u2).heap.size _ #[.int .i64 0, .int .i64 0, .int .i64 0, .int .i64 0, .int .u64 0, .int .u64 0, .int .u64 0, .nilFunc] 78 rfl rfl (pBlk_made u2 #[.int .i64 0, .int .i64 0, .int .i64 0, .int .i64 0, .int .u64 0, .int .u64 0, .int .u64 0, .nilFunc] 78) shape_size rfl (by simp [Value.oneCell']) ?_; intro w2 hp2 hb2 hz2; obtain ⟨r0, r1, r2, r3, r4, r5, r6, r7⟩ := cells8 hp2))
      refine (hsg.out _).mono ?_
      rintro e u3 ⟨rfl, hb3⟩
      go_wp2
      rw [han.out]
      go_ret2
      have hs := Nat.le_trans hb.size hb1.size
      exact ⟨rfl, ((((hb.trans (hb1.mono hb.size)).alloc hs _).trans (hb2.mono hs))).trans (hb3.mono (by simp at hz2; omega))⟩
end Go.Proofs.YtdlkfnkmdlcekaaGreatDoor
