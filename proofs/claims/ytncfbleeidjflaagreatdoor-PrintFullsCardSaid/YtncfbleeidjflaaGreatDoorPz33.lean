/- Values: Decode, Key, walked. Conditions: the variables that values read. -/
/- Values: Key, walked. Conditions: the variables that values read. -/
import Derived.Test.YtncfbleeidjflaaGreatDoorPz32
namespace Go.Proofs.YtncfbleeidjflaaGreatDoor
open Go.RowKit Go.Cal
theorem value_size : (Tryz.prog.info? 46).map (·.size) = some 4 := by kernel_rfl
set_option maxRecDepth 100000 in
set_option maxHeartbeats 1000000 in
theorem vdec_no (id p : Int) (hp0 : 0 ≤ p) (hp1 : p < 18446744073709551616) (hf : fitsV id p ≠ 0) (w : World) (hW : VaW w) :
    Calls Tryz.prog 64 #[.int .i64 id, .int .u64 p] w fun e w' => e = .returned (.tuple #[.agg #[.int .i64 0, .bool false, .int .u64 0, .int .i64 0], .int .i64 (fitsV id p)]) ∧ Below w.heap.size w w' := by
  have hfn := Lib.hid fun w (hW : VaW w) => fo_fits id p w hW.frm hp0 hp1
  have hff : (fitsV id p != 0) = true := by simp [hf]
  generalize fitsV id p = E at hfn hff ⊢
  clear hf
  go_enter Tryz.func64, Tryz.ntmps64
  go_wp2_with fail
  refine (hfn.out _ (hW.below ((Below.refl _ _).alloc (Nat.le_refl _) _))).mono ?_
  rintro e u1 ⟨rfl, hb⟩
  have hB : Below w.heap.size w u1 := ((Below.refl _ _).alloc (Nat.le_refl _) _).trans (hb.mono (by simp))
  have hp := pBlk_st _ _ _ _ _ (pBlk_made w #[.int .i64 0, .bool false, .int .u64 0, .int .i64 0] 46) hb
  obtain ⟨q0, q1, q2, q3⟩ := cells4 hp
  go_wp2_with ((with_reducible show wpList _ _ _ (Oper.mk _ (Op.store 46 _ _) _ _ _ _ :: _) _ _); refine wpList_store_whole _ rfl 46 _ _ rfl w.heap.size #[.int .i64 0, .bool false, .int .u64 0, .int .i64 0] #[.int .i64 0, .bool false, .int .u64 0, .int .i64 0] 46 rfl rfl hp value_size rfl (by simp [Value.oneCell']) ?_; intro u2 hp2 hb2 hz2; obtain ⟨r0, r1, r2, r3⟩ := cells4 hp2)
  exact bodyPost_ret (v := .tuple #[.agg #[.int .i64 0, .bool false, .int .u64 0, .int .i64 0], .int .i64 E]) (by simp [results, Tryz.results64, go_sem, r0, r1, r2, r3]) rfl ⟨rfl, hB.trans hb2⟩
set_option maxRecDepth 100000 in
set_option maxHeartbeats 1000000 in
theorem vdec_yes (id p : Int) (h1 : 1 ≤ id) (h2 : id < 15) (hp0 : 0 ≤ p) (hp1 : p < 2 ^ (fW id).toNat) (w : World) (hW : VaW w) :
    Calls Tryz.prog 64 #[.int .i64 id, .int .u64 p] w fun e w' => e = .returned (.tuple #[.agg #[.int .i64 (classV id p), .bool (decN id p), .int .u64 (decM id p : Nat), .int .i64 (decE id p)], .int .i64 0]) ∧ Below w.heap.size w w' := by
  obtain ⟨w1, w2, -⟩ := fo_wide h1 h2
  have hp64 : p < 18446744073709551616 := by
    have : (2 : Int) ^ (fW id).toNat ≤ 2 ^ 64 := by
      have h5 : 2 ^ (fW id).toNat ≤ 2 ^ 64 := Nat.pow_le_pow_right (by decide) w1
      exact_mod_cast h5
    omega
  have hf0 : fitsV id p = 0 := by unfold fitsV; rw [if_neg (by omega), if_pos hp1]
  have hfn := fun w (hW : VaW w) => fo_fits id p w hW.frm hp0 hp64
  rw [hf0] at hfn
  replace hfn := Lib.hid hfn
  have hof := Lib.hid fun w hW => vof_yes id h1 h2 w hW
  have hpt := Lib.hid fun w => vparts_any id p h1 h2 hp0 hp1 w
  have hcl := Lib.hid fun w => vclass_any id p w
  have hc : classV id p = 1 ∨ classV id p = 2 ∨ classV id p = 3 ∨ classV id p = 4 := by
    unfold classV; repeat' split
    all_goals simp
  rcases hc with hc | hc | hc | hc
  · have hn : decN id p = partN id p := by unfold decN; rw [if_neg (by rw [hc]; decide)]
    have hm : decM id p = 0 := by unfold decM; rw [if_neg (by rw [hc]; decide)]
    have he : decE id p = 0 := by unfold decE; rw [if_neg (by rw [hc]; decide)]
    rw [hn, hm, he, hc]
    rw [hc] at hcl
    clear hn hm he hc hf0 hp1 hp64
    generalize partN id p = ng at hpt ⊢
    generalize partK id p = key at hpt hcl
    all_goals
      go_enter Tryz.func64, Tryz.ntmps64
      go_wp2_with fail
      refine (hfn.out _ (hW.below ((Below.refl _ _).alloc (Nat.le_refl _) _))).mono ?_
      rintro e u1 ⟨rfl, hb⟩
      have hB : Below w.heap.size w u1 := ((Below.refl _ _).alloc (Nat.le_refl _) _).trans (hb.mono (by simp))
      have hp := pBlk_st _ _ _ _ _ (pBlk_made w #[.int .i64 0, .bool false, .int .u64 0, .int .i64 0] 46) hb
      go_wp2_with fail
      refine (hof.out _ (hW.below hB)).mono ?_
      rintro e u2 ⟨rfl, hb2⟩
      have hpA := pBlk_st _ _ _ _ _ hp hb2
      have hB2 := hB.trans (hb2.mono hB.size)
      go_wp2_with (first | ((with_reducible show wpList _ _ _ (Oper.mk _ (Op.store 190 _ _) _ _ _ _ :: _) _ _); refine wpList_store_whole _ rfl 190 _ _ rfl (u2).heap.size _ #[.int .i64 0, .int .i64 0, .int .i64 0, .int .i64 0, .int .u64 0, .int .u64 0, .int .u64 0, .nilFunc] 190 rfl rfl (pBlk_made u2 #[.int .i64 0, .int .i64 0, .int .i64 0, .int .i64 0, .int .u64 0, .int .u64 0, .int .u64 0, .nilFunc] 190) shape_size rfl (by simp [Value.oneCell']) ?_; intro w2 hp2 hb3 hz2; obtain ⟨r0, r1, r2, r3, r4, r5, r6, r7⟩ := cells8 hp2))
      have hB3 := (hB2.alloc hB2.size (.cells #[.int .i64 0, .int .i64 0, .int .i64 0, .int .i64 0, .int .u64 0, .int .u64 0, .int .u64 0, .nilFunc] 190)).trans (hb3.mono hB2.size)
      have hpB := pBlk_keep (pBlk_st _ _ _ _ _ hpA ((Below.refl _ _).alloc (Nat.le_refl _) (.cells #[.int .i64 0, .int .i64 0, .int .i64 0, .int .i64 0, .int .u64 0, .int .u64 0, .int .u64 0, .nilFunc] 190))) hb3 (by have := hb.size; have := hb2.size; simp at *; omega)
      refine (hpt.out _).mono ?_
      rintro e u3 ⟨rfl, hb4⟩
      have hpC := pBlk_st _ _ _ _ _ hpB hb4
      have hsC := pBlk_st _ _ _ _ _ hp2 hb4
      clear r0 r1 r2 r3 r4 r5 r6 r7
      obtain ⟨r0, r1, r2, r3, r4, r5, r6, r7⟩ := cells8 hsC
      go_wp2_with fail
      refine (hcl.out _).mono ?_
      rintro e u4 ⟨rfl, hb5⟩
      have hpD := pBlk_st _ _ _ _ _ hpC hb5
      have hsD := pBlk_st _ _ _ _ _ hsC hb5
      obtain ⟨p0, p1, p2, p3⟩ := cells4 hpD
      have f0 := hpD.free 0
      have f1 := hpD.free 1
      have hB5 := (hB3.trans (hb4.mono hB3.size)).trans (hb5.mono (Nat.le_trans hB3.size hb4.size))
      clear hpt hcl hof hfn
      clear r0 r1 r2 r3 r4 r5 r6 r7
      have hpE : pBlk w.heap.size #[.int .i64 1, .bool ng, .int .u64 0, .int .i64 0] 46 ((u4.setCell ⟨w.heap.size, 0, none⟩ (.int .i64 1)).setCell ⟨w.heap.size, 1, none⟩ (.bool ng)) := (hpD.setX 0 _).setX 1 _
      obtain ⟨q0, q1, q2, q3⟩ := cells4 hpE
      have hBE : Below w.heap.size w ((u4.setCell ⟨w.heap.size, 0, none⟩ (.int .i64 1)).setCell ⟨w.heap.size, 1, none⟩ (.bool ng)) := (hB5.setCell (p := ⟨w.heap.size, 0, none⟩) (Nat.le_refl _) _).setCell (p := ⟨w.heap.size, 1, none⟩) (Nat.le_refl _) _
      go_wp2_with ((with_reducible show wpList _ _ _ (Oper.mk _ (Op.store 46 _ _) _ _ _ _ :: _) _ _); refine wpList_store_whole _ rfl 46 _ _ rfl w.heap.size #[.int .i64 1, .bool ng, .int .u64 0, .int .i64 0] #[.int .i64 1, .bool ng, .int .u64 0, .int .i64 0] 46 rfl rfl hpE value_size rfl (by simp [Value.oneCell']) ?_; intro u5 hp2 hb2 hz2; obtain ⟨r0, r1, r2, r3⟩ := cells4 hp2)
      exact bodyPost_ret (v := .tuple #[.agg #[.int .i64 1, .bool ng, .int .u64 0, .int .i64 0], .int .i64 0]) (by simp [results, Tryz.results64, go_sem, r0, r1, r2, r3]) rfl ⟨rfl, hBE.trans hb2⟩
  · have hn : decN id p = partN id p := by unfold decN; rw [if_neg (by rw [hc]; decide)]
    have hm : decM id p = (magV id 0 (partK id p).toNat).1 := by unfold decM; rw [if_pos hc]
    have he : decE id p = (magV id 0 (partK id p).toNat).2 := by unfold decE; rw [if_pos hc]
    obtain ⟨x1, x2, x3, x4⟩ := class_two h1 h2 hp0 hp1 hc
    have hkn := partK_nonneg (id := id) hp0
    have hok := mag_own (key := (partK id p).toNat) h1 h2 (by omega) (fun h => by have := x3 (by omega); omega)
    have hnm := fun w hW => num_any id h1 h2 0 (partK id p).toNat 0 (partK id p) rfl (by omega) hok w hW
    rw [hn, hm, he, hc]
    rw [hc] at hcl
    clear hn hm he hc hf0 hp1 hp64 x1 x2 x3 x4 hok hkn
    generalize magV id 0 (partK id p).toNat = mg at hnm ⊢
    obtain ⟨mv, ev⟩ := mg
    generalize partN id p = ng at hpt ⊢
    generalize partK id p = key at hpt hcl hnm
    rcases numI_cases (fK id) with hI | hI | hI | hI
    all_goals
      rw [hI] at hnm hof hpt hcl
      replace hnm := Lib.hid hnm
      go_enter Tryz.func64, Tryz.ntmps64
      go_wp2_with fail
      refine (hfn.out _ (hW.below ((Below.refl _ _).alloc (Nat.le_refl _) _))).mono ?_
      rintro e u1 ⟨rfl, hb⟩
      have hB : Below w.heap.size w u1 := ((Below.refl _ _).alloc (Nat.le_refl _) _).trans (hb.mono (by simp))
      have hp := pBlk_st _ _ _ _ _ (pBlk_made w #[.int .i64 0, .bool false, .int .u64 0, .int .i64 0] 46) hb
      go_wp2_with fail
      refine (hof.out _ (hW.below hB)).mono ?_
      rintro e u2 ⟨rfl, hb2⟩
      have hpA := pBlk_st _ _ _ _ _ hp hb2
      have hB2 := hB.trans (hb2.mono hB.size)
      go_wp2_with (first | ((with_reducible show wpList _ _ _ (Oper.mk _ (Op.store 190 _ _) _ _ _ _ :: _) _ _); refine wpList_store_whole _ rfl 190 _ _ rfl (u2).heap.size _ #[.int .i64 0, .int .i64 0, .int .i64 0, .int .i64 0, .int .u64 0, .int .u64 0, .int .u64 0, .nilFunc] 190 rfl rfl (pBlk_made u2 #[.int .i64 0, .int .i64 0, .int .i64 0, .int .i64 0, .int .u64 0, .int .u64 0, .int .u64 0, .nilFunc] 190) shape_size rfl (by simp [Value.oneCell']) ?_; intro w2 hp2 hb3 hz2; obtain ⟨r0, r1, r2, r3, r4, r5, r6, r7⟩ := cells8 hp2))
      have hB3 := (hB2.alloc hB2.size (.cells #[.int .i64 0, .int .i64 0, .int .i64 0, .int .i64 0, .int .u64 0, .int .u64 0, .int .u64 0, .nilFunc] 190)).trans (hb3.mono hB2.size)
      have hpB := pBlk_keep (pBlk_st _ _ _ _ _ hpA ((Below.refl _ _).alloc (Nat.le_refl _) (.cells #[.int .i64 0, .int .i64 0, .int .i64 0, .int .i64 0, .int .u64 0, .int .u64 0, .int .u64 0, .nilFunc] 190))) hb3 (by have := hb.size; have := hb2.size; simp at *; omega)
      refine (hpt.out _).mono ?_
      rintro e u3 ⟨rfl, hb4⟩
      have hpC := pBlk_st _ _ _ _ _ hpB hb4
      have hsC := pBlk_st _ _ _ _ _ hp2 hb4
      clear r0 r1 r2 r3 r4 r5 r6 r7
      obtain ⟨r0, r1, r2, r3, r4, r5, r6, r7⟩ := cells8 hsC
      go_wp2_with fail
      refine (hcl.out _).mono ?_
      rintro e u4 ⟨rfl, hb5⟩
      have hpD := pBlk_st _ _ _ _ _ hpC hb5
      have hsD := pBlk_st _ _ _ _ _ hsC hb5
      obtain ⟨p0, p1, p2, p3⟩ := cells4 hpD
      have f0 := hpD.free 0
      have f1 := hpD.free 1
      have hB5 := (hB3.trans (hb4.mono hB3.size)).trans (hb5.mono (Nat.le_trans hB3.size hb4.size))
      clear hpt hcl hof hfn
      clear r0 r1 r2 r3 r4 r5 r6 r7
      have hpE : pBlk w.heap.size #[.int .i64 2, .bool ng, .int .u64 0, .int .i64 0] 46 ((u4.setCell ⟨w.heap.size, 0, none⟩ (.int .i64 2)).setCell ⟨w.heap.size, 1, none⟩ (.bool ng)) := (hpD.setX 0 _).setX 1 _
      have hBE : Below w.heap.size w ((u4.setCell ⟨w.heap.size, 0, none⟩ (.int .i64 2)).setCell ⟨w.heap.size, 1, none⟩ (.bool ng)) := (hB5.setCell (p := ⟨w.heap.size, 0, none⟩) (Nat.le_refl _) _).setCell (p := ⟨w.heap.size, 1, none⟩) (Nat.le_refl _) _
      have hne : u2.heap.size ≠ w.heap.size := by have := hb.size; have := hb2.size; simp at *; omega
      have hnb : ∀ i o : Nat, (⟨w.heap.size, i, none⟩ : Addr) ≠ ⟨u2.heap.size, o, none⟩ := fun i o e => hne (by injection e with e; exact e.symm)
      have r : ∀ o : Nat, ((u4.setCell ⟨w.heap.size, 0, none⟩ (.int .i64 2)).setCell ⟨w.heap.size, 1, none⟩ (.bool ng)).cell? ⟨u2.heap.size, o, none⟩ = u4.cell? ⟨u2.heap.size, o, none⟩ := fun o => by
        rw [World.cell?_setCell_other _ _ _ _ (hnb 1 o), World.cell?_setCell_other _ _ _ _ (hnb 0 o)]
      obtain ⟨s0, s1, s2, s3, s4, s5, s6, s7⟩ := cells8 hsD
      have t0 := (r 0).trans s0
      have t1 := (r 1).trans s1
      have t2 := (r 2).trans s2
      have t3 := (r 3).trans s3
      have t4 := (r 4).trans s4
      have t5 := (r 5).trans s5
      have t6 := (r 6).trans s6
      have t7 := (r 7).trans s7
      clear r hnb s0 s1 s2 s3 s4 s5 s6 s7
      go_wp2_with fail
      refine (hnm.out _ (hW.below hBE)).mono ?_
      rintro e u6 ⟨rfl, hb6⟩
      have hpF := pBlk_st _ _ _ _ _ hpE hb6
      have hB6 := hBE.trans (hb6.mono hBE.size)
      clear p0 p1 p2 p3 f0 f1 t0 t1 t2 t3 t4 t5 t6 t7
      obtain ⟨p0, p1, p2, p3⟩ := cells4 hpF
      have f2 := hpF.free 2
      have f3 := hpF.free 3
      have hpG : pBlk w.heap.size #[.int .i64 2, .bool ng, .int .u64 mv, .int .i64 ev] 46 ((u6.setCell ⟨w.heap.size, 2, none⟩ (.int .u64 mv)).setCell ⟨w.heap.size, 3, none⟩ (.int .i64 ev)) := (hpF.setX 2 _).setX 3 _
      have hBG : Below w.heap.size w ((u6.setCell ⟨w.heap.size, 2, none⟩ (.int .u64 mv)).setCell ⟨w.heap.size, 3, none⟩ (.int .i64 ev)) := (hB6.setCell (p := ⟨w.heap.size, 2, none⟩) (Nat.le_refl _) _).setCell (p := ⟨w.heap.size, 3, none⟩) (Nat.le_refl _) _
      obtain ⟨q0, q1, q2, q3⟩ := cells4 hpG
      go_wp2_with ((with_reducible show wpList _ _ _ (Oper.mk _ (Op.store 46 _ _) _ _ _ _ :: _) _ _); refine wpList_store_whole _ rfl 46 _ _ rfl w.heap.size #[.int .i64 2, .bool ng, .int .u64 mv, .int .i64 ev] #[.int .i64 2, .bool ng, .int .u64 mv, .int .i64 ev] 46 rfl rfl hpG value_size rfl (by simp [Value.oneCell']) ?_; intro u5 hp2 hb2 hz2; obtain ⟨r0, r1, r2, r3⟩ := cells4 hp2)
      exact bodyPost_ret (v := .tuple #[.agg #[.int .i64 2, .bool ng, .int .u64 mv, .int .i64 ev], .int .i64 0]) (by simp [results, Tryz.results64, go_sem, r0, r1, r2, r3]) rfl ⟨rfl, hBG.trans hb2⟩
  · have hn : decN id p = partN id p := by unfold decN; rw [if_neg (by rw [hc]; decide)]
    have hm : decM id p = 0 := by unfold decM; rw [if_neg (by rw [hc]; decide)]
    have he : decE id p = 0 := by unfold decE; rw [if_neg (by rw [hc]; decide)]
    rw [hn, hm, he, hc]
    rw [hc] at hcl
    clear hn hm he hc hf0 hp1 hp64
    generalize partN id p = ng at hpt ⊢
    generalize partK id p = key at hpt hcl
    all_goals
      go_enter Tryz.func64, Tryz.ntmps64
      go_wp2_with fail
      refine (hfn.out _ (hW.below ((Below.refl _ _).alloc (Nat.le_refl _) _))).mono ?_
      rintro e u1 ⟨rfl, hb⟩
      have hB : Below w.heap.size w u1 := ((Below.refl _ _).alloc (Nat.le_refl _) _).trans (hb.mono (by simp))
      have hp := pBlk_st _ _ _ _ _ (pBlk_made w #[.int .i64 0, .bool false, .int .u64 0, .int .i64 0] 46) hb
      go_wp2_with fail
      refine (hof.out _ (hW.below hB)).mono ?_
      rintro e u2 ⟨rfl, hb2⟩
      have hpA := pBlk_st _ _ _ _ _ hp hb2
      have hB2 := hB.trans (hb2.mono hB.size)
      go_wp2_with (first | ((with_reducible show wpList _ _ _ (Oper.mk _ (Op.store 190 _ _) _ _ _ _ :: _) _ _); refine wpList_store_whole _ rfl 190 _ _ rfl (u2).heap.size _ #[.int .i64 0, .int .i64 0, .int .i64 0, .int .i64 0, .int .u64 0, .int .u64 0, .int .u64 0, .nilFunc] 190 rfl rfl (pBlk_made u2 #[.int .i64 0, .int .i64 0, .int .i64 0, .int .i64 0, .int .u64 0, .int .u64 0, .int .u64 0, .nilFunc] 190) shape_size rfl (by simp [Value.oneCell']) ?_; intro w2 hp2 hb3 hz2; obtain ⟨r0, r1, r2, r3, r4, r5, r6, r7⟩ := cells8 hp2))
      have hB3 := (hB2.alloc hB2.size (.cells #[.int .i64 0, .int .i64 0, .int .i64 0, .int .i64 0, .int .u64 0, .int .u64 0, .int .u64 0, .nilFunc] 190)).trans (hb3.mono hB2.size)
      have hpB := pBlk_keep (pBlk_st _ _ _ _ _ hpA ((Below.refl _ _).alloc (Nat.le_refl _) (.cells #[.int .i64 0, .int .i64 0, .int .i64 0, .int .i64 0, .int .u64 0, .int .u64 0, .int .u64 0, .nilFunc] 190))) hb3 (by have := hb.size; have := hb2.size; simp at *; omega)
      refine (hpt.out _).mono ?_
      rintro e u3 ⟨rfl, hb4⟩
      have hpC := pBlk_st _ _ _ _ _ hpB hb4
      have hsC := pBlk_st _ _ _ _ _ hp2 hb4
      clear r0 r1 r2 r3 r4 r5 r6 r7
      obtain ⟨r0, r1, r2, r3, r4, r5, r6, r7⟩ := cells8 hsC
      go_wp2_with fail
      refine (hcl.out _).mono ?_
      rintro e u4 ⟨rfl, hb5⟩
      have hpD := pBlk_st _ _ _ _ _ hpC hb5
      have hsD := pBlk_st _ _ _ _ _ hsC hb5
      obtain ⟨p0, p1, p2, p3⟩ := cells4 hpD
      have f0 := hpD.free 0
      have f1 := hpD.free 1
      have hB5 := (hB3.trans (hb4.mono hB3.size)).trans (hb5.mono (Nat.le_trans hB3.size hb4.size))
      clear hpt hcl hof hfn
      clear r0 r1 r2 r3 r4 r5 r6 r7
      have hpE : pBlk w.heap.size #[.int .i64 3, .bool ng, .int .u64 0, .int .i64 0] 46 ((u4.setCell ⟨w.heap.size, 0, none⟩ (.int .i64 3)).setCell ⟨w.heap.size, 1, none⟩ (.bool ng)) := (hpD.setX 0 _).setX 1 _
      obtain ⟨q0, q1, q2, q3⟩ := cells4 hpE
      have hBE : Below w.heap.size w ((u4.setCell ⟨w.heap.size, 0, none⟩ (.int .i64 3)).setCell ⟨w.heap.size, 1, none⟩ (.bool ng)) := (hB5.setCell (p := ⟨w.heap.size, 0, none⟩) (Nat.le_refl _) _).setCell (p := ⟨w.heap.size, 1, none⟩) (Nat.le_refl _) _
      go_wp2_with ((with_reducible show wpList _ _ _ (Oper.mk _ (Op.store 46 _ _) _ _ _ _ :: _) _ _); refine wpList_store_whole _ rfl 46 _ _ rfl w.heap.size #[.int .i64 3, .bool ng, .int .u64 0, .int .i64 0] #[.int .i64 3, .bool ng, .int .u64 0, .int .i64 0] 46 rfl rfl hpE value_size rfl (by simp [Value.oneCell']) ?_; intro u5 hp2 hb2 hz2; obtain ⟨r0, r1, r2, r3⟩ := cells4 hp2)
      exact bodyPost_ret (v := .tuple #[.agg #[.int .i64 3, .bool ng, .int .u64 0, .int .i64 0], .int .i64 0]) (by simp [results, Tryz.results64, go_sem, r0, r1, r2, r3]) rfl ⟨rfl, hBE.trans hb2⟩
  · have hn : decN id p = false := by unfold decN; rw [if_pos hc]
    have hm : decM id p = 0 := by unfold decM; rw [if_neg (by rw [hc]; decide)]
    have he : decE id p = 0 := by unfold decE; rw [if_neg (by rw [hc]; decide)]
    rw [hn, hm, he, hc]
    rw [hc] at hcl
    clear hn hm he hc hf0 hp1 hp64
    generalize partN id p = ng at hpt
    generalize partK id p = key at hpt hcl
    all_goals
      go_enter Tryz.func64, Tryz.ntmps64
      go_wp2_with fail
      refine (hfn.out _ (hW.below ((Below.refl _ _).alloc (Nat.le_refl _) _))).mono ?_
      rintro e u1 ⟨rfl, hb⟩
      have hB : Below w.heap.size w u1 := ((Below.refl _ _).alloc (Nat.le_refl _) _).trans (hb.mono (by simp))
      have hp := pBlk_st _ _ _ _ _ (pBlk_made w #[.int .i64 0, .bool false, .int .u64 0, .int .i64 0] 46) hb
      go_wp2_with fail
      refine (hof.out _ (hW.below hB)).mono ?_
      rintro e u2 ⟨rfl, hb2⟩
      have hpA := pBlk_st _ _ _ _ _ hp hb2
      have hB2 := hB.trans (hb2.mono hB.size)
      go_wp2_with (first | ((with_reducible show wpList _ _ _ (Oper.mk _ (Op.store 190 _ _) _ _ _ _ :: _) _ _); refine wpList_store_whole _ rfl 190 _ _ rfl (u2).heap.size _ #[.int .i64 0, .int .i64 0, .int .i64 0, .int .i64 0, .int .u64 0, .int .u64 0, .int .u64 0, .nilFunc] 190 rfl rfl (pBlk_made u2 #[.int .i64 0, .int .i64 0, .int .i64 0, .int .i64 0, .int .u64 0, .int .u64 0, .int .u64 0, .nilFunc] 190) shape_size rfl (by simp [Value.oneCell']) ?_; intro w2 hp2 hb3 hz2; obtain ⟨r0, r1, r2, r3, r4, r5, r6, r7⟩ := cells8 hp2))
      have hB3 := (hB2.alloc hB2.size (.cells #[.int .i64 0, .int .i64 0, .int .i64 0, .int .i64 0, .int .u64 0, .int .u64 0, .int .u64 0, .nilFunc] 190)).trans (hb3.mono hB2.size)
      have hpB := pBlk_keep (pBlk_st _ _ _ _ _ hpA ((Below.refl _ _).alloc (Nat.le_refl _) (.cells #[.int .i64 0, .int .i64 0, .int .i64 0, .int .i64 0, .int .u64 0, .int .u64 0, .int .u64 0, .nilFunc] 190))) hb3 (by have := hb.size; have := hb2.size; simp at *; omega)
      refine (hpt.out _).mono ?_
      rintro e u3 ⟨rfl, hb4⟩
      have hpC := pBlk_st _ _ _ _ _ hpB hb4
      have hsC := pBlk_st _ _ _ _ _ hp2 hb4
      clear r0 r1 r2 r3 r4 r5 r6 r7
      obtain ⟨r0, r1, r2, r3, r4, r5, r6, r7⟩ := cells8 hsC
      go_wp2_with fail
      refine (hcl.out _).mono ?_
      rintro e u4 ⟨rfl, hb5⟩
      have hpD := pBlk_st _ _ _ _ _ hpC hb5
      have hsD := pBlk_st _ _ _ _ _ hsC hb5
      obtain ⟨p0, p1, p2, p3⟩ := cells4 hpD
      have f0 := hpD.free 0
      have f1 := hpD.free 1
      have hB5 := (hB3.trans (hb4.mono hB3.size)).trans (hb5.mono (Nat.le_trans hB3.size hb4.size))
      clear hpt hcl hof hfn
      clear r0 r1 r2 r3 r4 r5 r6 r7
      have hpE : pBlk w.heap.size #[.int .i64 4, .bool false, .int .u64 0, .int .i64 0] 46 (u4.setCell ⟨w.heap.size, 0, none⟩ (.int .i64 4)) := hpD.setX 0 _
      obtain ⟨q0, q1, q2, q3⟩ := cells4 hpE
      have hBE : Below w.heap.size w (u4.setCell ⟨w.heap.size, 0, none⟩ (.int .i64 4)) := hB5.setCell (p := ⟨w.heap.size, 0, none⟩) (Nat.le_refl _) _
      go_wp2_with ((with_reducible show wpList _ _ _ (Oper.mk _ (Op.store 46 _ _) _ _ _ _ :: _) _ _); refine wpList_store_whole _ rfl 46 _ _ rfl w.heap.size #[.int .i64 4, .bool false, .int .u64 0, .int .i64 0] #[.int .i64 4, .bool false, .int .u64 0, .int .i64 0] 46 rfl rfl hpE value_size rfl (by simp [Value.oneCell']) ?_; intro u5 hp2 hb2 hz2; obtain ⟨r0, r1, r2, r3⟩ := cells4 hp2)
      exact bodyPost_ret (v := .tuple #[.agg #[.int .i64 4, .bool false, .int .u64 0, .int .i64 0], .int .i64 0]) (by simp [results, Tryz.results64, go_sem, r0, r1, r2, r3]) rfl ⟨rfl, hBE.trans hb2⟩
end Go.Proofs.YtncfbleeidjflaaGreatDoor
namespace Go.Proofs.YtncfbleeidjflaaGreatDoor
open Go.RowKit Go.Cal
set_option maxRecDepth 100000 in
set_option maxHeartbeats 1000000 in
theorem vkey_yes (id p : Int) (h1 : 1 ≤ id) (h2 : id < 15) (hp0 : 0 ≤ p) (hp1 : p < 2 ^ (fW id).toNat) (hc : classV id p = 1 ∨ classV id p = 2) (w : World) (hW : VaW w) :
    Calls Tryz.prog 144 #[.int .i64 id, .int .u64 p] w fun e w' => e = .returned (.tuple #[.bool (partN id p), .int .u64 (partK id p), .int .i64 0]) ∧ Below w.heap.size w w' := by
  have hdc := fun w hW => vdec_yes id p h1 h2 hp0 hp1 w hW
  have hof := Lib.hid fun w hW => vof_yes id h1 h2 w hW
  have hpt := Lib.hid fun w => vparts_any id p h1 h2 hp0 hp1 w
  generalize decN id p = dn at hdc
  generalize decM id p = dm at hdc
  generalize decE id p = de at hdc
  generalize partN id p = ng at hpt ⊢
  generalize partK id p = key at hpt ⊢
  clear hp0 hp1
  rcases hc with hc | hc
  · rw [hc] at hdc
    replace hdc := Lib.hid hdc
    clear hc
    go_enter Tryz.func144, Tryz.ntmps144
    go_wp2_with fail
    refine (hdc.out _ hW).mono ?_
    rintro e u1 ⟨rfl, hb⟩
    go_wp2_with fail
    have hB := hb.alloc hb.size (.cells #[.int .i64 1, .bool dn, .int .u64 (dm : Nat), .int .i64 de] 46)
    refine (hof.out _ (hW.below hB)).mono ?_
    rintro e u2 ⟨rfl, hb1⟩
    have hB2 := hB.trans (hb1.mono hB.size)
    go_wp2_with (first | ((with_reducible show wpList _ _ _ (Oper.mk _ (Op.store 190 _ _) _ _ _ _ :: _) _ _); refine wpList_store_whole _ rfl 190 _ _ rfl (u2).heap.size _ #[.int .i64 0, .int .i64 0, .int .i64 0, .int .i64 0, .int .u64 0, .int .u64 0, .int .u64 0, .nilFunc] 190 rfl rfl (pBlk_made u2 #[.int .i64 0, .int .i64 0, .int .i64 0, .int .i64 0, .int .u64 0, .int .u64 0, .int .u64 0, .nilFunc] 190) shape_size rfl (by simp [Value.oneCell']) ?_; intro w2 hp2 hb3 hz2; obtain ⟨r0, r1, r2, r3, r4, r5, r6, r7⟩ := cells8 hp2))
    have hB3 := (hB2.alloc hB2.size (.cells #[.int .i64 0, .int .i64 0, .int .i64 0, .int .i64 0, .int .u64 0, .int .u64 0, .int .u64 0, .nilFunc] 190)).trans (hb3.mono hB2.size)
    refine (hpt.out _).mono ?_
    rintro e u3 ⟨rfl, hb4⟩
    go_wp2
    go_ret3
    exact ⟨rfl, hB3.trans (hb4.mono hB3.size)⟩
  · rw [hc] at hdc
    replace hdc := Lib.hid hdc
    clear hc
    go_enter Tryz.func144, Tryz.ntmps144
    go_wp2_with fail
    refine (hdc.out _ hW).mono ?_
    rintro e u1 ⟨rfl, hb⟩
    go_wp2_with fail
    have hB := hb.alloc hb.size (.cells #[.int .i64 2, .bool dn, .int .u64 (dm : Nat), .int .i64 de] 46)
    refine (hof.out _ (hW.below hB)).mono ?_
    rintro e u2 ⟨rfl, hb1⟩
    have hB2 := hB.trans (hb1.mono hB.size)
    go_wp2_with (first | ((with_reducible show wpList _ _ _ (Oper.mk _ (Op.store 190 _ _) _ _ _ _ :: _) _ _); refine wpList_store_whole _ rfl 190 _ _ rfl (u2).heap.size _ #[.int .i64 0, .int .i64 0, .int .i64 0, .int .i64 0, .int .u64 0, .int .u64 0, .int .u64 0, .nilFunc] 190 rfl rfl (pBlk_made u2 #[.int .i64 0, .int .i64 0, .int .i64 0, .int .i64 0, .int .u64 0, .int .u64 0, .int .u64 0, .nilFunc] 190) shape_size rfl (by simp [Value.oneCell']) ?_; intro w2 hp2 hb3 hz2; obtain ⟨r0, r1, r2, r3, r4, r5, r6, r7⟩ := cells8 hp2))
    have hB3 := (hB2.alloc hB2.size (.cells #[.int .i64 0, .int .i64 0, .int .i64 0, .int .i64 0, .int .u64 0, .int .u64 0, .int .u64 0, .nilFunc] 190)).trans (hb3.mono hB2.size)
    refine (hpt.out _).mono ?_
    rintro e u3 ⟨rfl, hb4⟩
    go_wp2
    go_ret3
    exact ⟨rfl, hB3.trans (hb4.mono hB3.size)⟩
end Go.Proofs.YtncfbleeidjflaaGreatDoor
