/- Values: a pattern's class, Decode, walked. Conditions: the variables that values read. -/
/- Values: Decode, Key, walked. Conditions: the variables that values read. -/
/- Plain: what Parse tells. Conditions: none. -/
/- Plain: what Parse tells fits. Conditions: none. -/
/- The shortest digits: finite, walked. Conditions: the variables that values read. -/
/- Print: the text of a pattern, walked. Conditions: the variables that values and words read. -/
/- Plain: what Short and Full tell are right digits. Conditions: none. -/
/- Print, PrintFull: walked. Conditions: the variables that values and words read. -/
import Derived.Test.YtobokaafmcfeaaaGreatDoorSk25
import Derived.Test.YtobokaafmcfeaaaGreatDoorSk22
import Derived.Test.YtobokaafmcfeaaaGreatDoorSk24
import Derived.Test.YtobokaafmcfeaaaGreatDoorSk03
import Derived.Deep.LoopGhost
namespace Go.Proofs.YtobokaafmcfeaaaGreatDoor
open Go.RowKit Go.Cal
theorem class_cases (id p : Int) : 
    ((fK id == 2) = true ∧ (fK id != 2) = false ∧ (partK id p == fI id) = true ∧ (fI id != 0) = true ∧ classV id p = 3) ∨
    ((fK id == 2) = true ∧ (fK id != 2) = false ∧ (fK id != 4) = true ∧ ((partK id p == fI id) = false ∨ (partK id p == fI id) = true ∧ (fI id != 0) = false) ∧
      ((fT id < partK id p ∧ classV id p = 4) ∨ (¬ fT id < partK id p ∧ (partK id p == 0) = true ∧ classV id p = 1) ∨ (¬ fT id < partK id p ∧ (partK id p == 0) = false ∧ classV id p = 2))) ∨
    ((fK id == 2) = false ∧ (fK id != 2) = true ∧
      (((fN id != 0) = true ∧ (p == fN id) = true ∧ classV id p = 4) ∨
       (((fN id != 0) = false ∨ (fN id != 0) = true ∧ (p == fN id) = false) ∧
         (((partK id p == 0) = true ∧ (fK id != 4) = true ∧ classV id p = 1) ∨ ((partK id p == 0) = true ∧ (fK id != 4) = false ∧ classV id p = 2) ∨ ((partK id p == 0) = false ∧ classV id p = 2))))) := by
  unfold classV
  generalize partK id p = key
  by_cases hk : fK id = 2
  · by_cases hi : key = fI id ∧ fI id ≠ 0
    · left; rw [if_pos ⟨hk, hi⟩]; simp [hk, hi.1, hi.2]
    · right; left
      rw [if_neg (fun h => hi ⟨h.2.1, h.2.2⟩)]
      refine ⟨by simp [hk], by simp [hk], by simp [hk], ?_, ?_⟩
      · by_cases hx : key = fI id
        · right; refine ⟨by simp [hx], ?_⟩; simp; exact Classical.byContradiction fun h => hi ⟨hx, h⟩
        · left; simp [hx]
      · by_cases ht : fT id < key
        · left; rw [if_pos (.inl ⟨hk, ht⟩)]; exact ⟨ht, rfl⟩
        · right
          rw [if_neg (fun h => by rcases h with h | h; exact ht h.2; exact h.1 hk)]
          by_cases h0 : key = 0
          · left; rw [if_pos ⟨h0, by omega⟩]; exact ⟨ht, by simp [h0], rfl⟩
          · right; rw [if_neg (fun h => h0 h.1)]; exact ⟨ht, by simp [h0], rfl⟩
  · right; right
    refine ⟨by simp [hk], by simp [hk], ?_⟩
    rw [if_neg (fun h => hk h.1)]
    by_cases hn : fN id ≠ 0 ∧ p = fN id
    · left; rw [if_pos (.inr ⟨hk, hn⟩)]; exact ⟨by simp [hn.1], by simp [hn.2], rfl⟩
    · right
      rw [if_neg (fun h => by rcases h with h | h; exact hk h.1; exact hn h.2)]
      refine ⟨?_, ?_⟩
      · by_cases h0 : fN id = 0
        · left; simp [h0]
        · right; refine ⟨by simp [h0], ?_⟩; simp; exact fun h => hn ⟨h0, h⟩
      · by_cases h0 : key = 0
        · by_cases h4 : fK id = 4
          · right; left; rw [if_neg (fun h => h.2 h4)]; exact ⟨by simp [h0], by simp [h4], rfl⟩
          · left; rw [if_pos ⟨h0, h4⟩]; exact ⟨by simp [h0], by simp [h4], rfl⟩
        · right; right; rw [if_neg (fun h => h0 h.1)]; exact ⟨by simp [h0], rfl⟩
set_option maxRecDepth 100000 in
set_option maxHeartbeats 1000000 in
theorem vclass_any (id p : Int) (w : World) :
    Calls Tryz.prog 201 #[.agg #[.int .i64 (fK id), .int .i64 (fW id), .int .i64 (fM id), .int .i64 (fB id), .int .u64 (fT id), .int .u64 (fI id), .int .u64 (fN id), .func (.func (numI (fK id))) #[] #[]], .int .u64 p, .int .u64 (partK id p)] w fun e w' => e = .returned (.int .i64 (classV id p)) ∧ Below w.heap.size w w' := by
  have hc := class_cases id p
  generalize partK id p = key at hc ⊢
  rcases hc with ⟨k1, k2, k3, k4, hV⟩ | ⟨k1, k2, k3, k4, hV⟩ | ⟨k1, k2, hV⟩
  · rw [hV]
    go_enter Tryz.func201, Tryz.ntmps201
    go_wp2
    go_ret
    exact ⟨rfl, (Below.refl _ _).alloc (Nat.le_refl _) _⟩
  · rcases k4 with k4 | ⟨k4, k5⟩
    all_goals
      rcases hV with ⟨k6, hV⟩ | ⟨k6, k7, hV⟩ | ⟨k6, k7, hV⟩
      all_goals
        rw [hV]
        go_enter Tryz.func201, Tryz.ntmps201
        go_wp2
        go_ret
        exact ⟨rfl, (Below.refl _ _).alloc (Nat.le_refl _) _⟩
  · rcases hV with ⟨k3, k4, hV⟩ | ⟨k3 | ⟨k3, k4⟩, ⟨k5, k6, hV⟩ | ⟨k5, k6, hV⟩ | ⟨k5, hV⟩⟩
    all_goals
      rw [hV]
      go_enter Tryz.func201, Tryz.ntmps201
      go_wp2
      go_ret
      exact ⟨rfl, (Below.refl _ _).alloc (Nat.le_refl _) _⟩
/-- What Decode tells. -/
def decN (id p : Int) : Bool := if classV id p = 4 then false else partN id p
def decM (id p : Int) : Nat := if classV id p = 2 then (magV id 0 (partK id p).toNat).1 else 0
def decE (id p : Int) : Int := if classV id p = 2 then (magV id 0 (partK id p).toNat).2 else 0
theorem partK_nonneg {id p : Int} (hp0 : 0 ≤ p) : 0 ≤ partK id p := by
  unfold partK partN
  split
  · exact hp0
  · rename_i h
    split
    · simp at h; omega
    · exact Int.emod_nonneg _ (by have := pow_pos (fW id).toNat; omega)
/-- A number's magnitude is one. -/
theorem class_two {id p : Int} (h1 : 1 ≤ id) (h2 : id < 15) (hp0 : 0 ≤ p) (hp1 : p < 2 ^ (fW id).toNat) (hc : classV id p = 2) : partK id p ≤ fitM id ∧ partK id p ≤ mostV id (partN id p) ∧ (fK id ≠ 4 → partK id p ≠ 0) ∧ (partN id p = true → fK id ≠ 4) := by
  rcases id_cases h1 h2 with rfl | rfl | rfl | rfl | rfl | rfl | rfl | rfl | rfl | rfl | rfl | rfl | rfl | rfl <;>
    simp [classV, partK, partN, fitM, mostV, fK, fW, fT, fN, fI] at hp1 hc ⊢ <;> (repeat' split at hc) <;> simp_all <;> omega
end Go.Proofs.YtobokaafmcfeaaaGreatDoor
namespace Go.Proofs.YtobokaafmcfeaaaGreatDoor
open Go.RowKit Go.Cal
theorem value_size : (Tryz.prog.info? 85).map (·.size) = some 4 := by kernel_rfl
set_option maxRecDepth 100000 in
set_option maxHeartbeats 1000000 in
theorem vdec_no (id p : Int) (hp0 : 0 ≤ p) (hp1 : p < 18446744073709551616) (hf : fitsV id p ≠ 0) (w : World) (hW : VaW w) :
    Calls Tryz.prog 105 #[.int .i64 id, .int .u64 p] w fun e w' => e = .returned (.tuple #[.agg #[.int .i64 0, .bool false, .int .u64 0, .int .i64 0], .int .i64 (fitsV id p)]) ∧ Below w.heap.size w w' := by
  have hfn := Lib.hid fun w (hW : VaW w) => fo_fits id p w hW.frm hp0 hp1
  have hff : (fitsV id p != 0) = true := by simp [hf]
  generalize fitsV id p = E at hfn hff ⊢
  clear hf
  go_enter Tryz.func105, Tryz.ntmps105
  go_wp2_with fail
  refine (hfn.out _ (hW.below ((Below.refl _ _).alloc (Nat.le_refl _) _))).mono ?_
  rintro e u1 ⟨rfl, hb⟩
  have hB : Below w.heap.size w u1 := ((Below.refl _ _).alloc (Nat.le_refl _) _).trans (hb.mono (by simp))
  have hp := pBlk_st _ _ _ _ _ (pBlk_made w #[.int .i64 0, .bool false, .int .u64 0, .int .i64 0] 85) hb
  obtain ⟨q0, q1, q2, q3⟩ := cells4 hp
  go_wp2_with ((with_reducible show wpList _ _ _ (Oper.mk _ (Op.store 85 _ _) _ _ _ _ :: _) _ _); refine wpList_store_whole _ rfl 85 _ _ rfl w.heap.size #[.int .i64 0, .bool false, .int .u64 0, .int .i64 0] #[.int .i64 0, .bool false, .int .u64 0, .int .i64 0] 85 rfl rfl hp value_size rfl (by simp [Value.oneCell']) ?_; intro u2 hp2 hb2 hz2; obtain ⟨r0, r1, r2, r3⟩ := cells4 hp2)
  exact bodyPost_ret (v := .tuple #[.agg #[.int .i64 0, .bool false, .int .u64 0, .int .i64 0], .int .i64 E]) (by simp [results, Tryz.results105, go_sem, r0, r1, r2, r3]) rfl ⟨rfl, hB.trans hb2⟩
set_option maxRecDepth 100000 in
set_option maxHeartbeats 1000000 in
theorem vdec_yes (id p : Int) (h1 : 1 ≤ id) (h2 : id < 15) (hp0 : 0 ≤ p) (hp1 : p < 2 ^ (fW id).toNat) (w : World) (hW : VaW w) :
    Calls Tryz.prog 105 #[.int .i64 id, .int .u64 p] w fun e w' => e = .returned (.tuple #[.agg #[.int .i64 (classV id p), .bool (decN id p), .int .u64 (decM id p : Nat), .int .i64 (decE id p)], .int .i64 0]) ∧ Below w.heap.size w w' := by
  obtain ⟨w1, w2, -⟩ := fo_wide h1 h2
  have hp64 : p < 18446744073709551616 := by
    have : (2 : Int) ^ (fW id).toNat ≤ 2 ^ 64 := by
      have h5 : 2 ^ (fW id).toNat ≤ 2 ^ 64 := Nat.pow_le_pow_right (by decide) w1
      exact_mod_cast h5
    omega
  have hf0 : fitsV id p = 0 := by unfold fitsV; rw [if_neg (by omega), if_pos hp1]
  have hfn := fun w (hW : VaW w) => fo_fits id p w hW.frm hp0 hp64
  rw [hf0] at hfn
  replace hfn := Lib.hid hfn
  have hof := Lib.hid fun w hW => vof_yes id h1 h2 w hW
  have hpt := Lib.hid fun w => vparts_any id p h1 h2 hp0 hp1 w
  have hcl := Lib.hid fun w => vclass_any id p w
  have hc : classV id p = 1 ∨ classV id p = 2 ∨ classV id p = 3 ∨ classV id p = 4 := by
    unfold classV; repeat' split
    all_goals simp
  rcases hc with hc | hc | hc | hc
  · have hn : decN id p = partN id p := by unfold decN; rw [if_neg (by rw [hc]; decide)]
    have hm : decM id p = 0 := by unfold decM; rw [if_neg (by rw [hc]; decide)]
    have he : decE id p = 0 := by unfold decE; rw [if_neg (by rw [hc]; decide)]
    rw [hn, hm, he, hc]
    rw [hc] at hcl
    clear hn hm he hc hf0 hp1 hp64
    generalize partN id p = ng at hpt ⊢
    generalize partK id p = key at hpt hcl
    all_goals
      go_enter Tryz.func105, Tryz.ntmps105
      go_wp2_with fail
      refine (hfn.out _ (hW.below ((Below.refl _ _).alloc (Nat.le_refl _) _))).mono ?_
      rintro e u1 ⟨rfl, hb⟩
      have hB : Below w.heap.size w u1 := ((Below.refl _ _).alloc (Nat.le_refl _) _).trans (hb.mono (by simp))
      have hp := pBlk_st _ _ _ _ _ (pBlk_made w #[.int .i64 0, .bool false, .int .u64 0, .int .i64 0] 85) hb
      go_wp2_with fail
      refine (hof.out _ (hW.below hB)).mono ?_
      rintro e u2 ⟨rfl, hb2⟩
      have hpA := pBlk_st _ _ _ _ _ hp hb2
      have hB2 := hB.trans (hb2.mono hB.size)
      go_wp2_with (first | ((with_reducible show wpList _ _ _ (Oper.mk _ (Op.store 257 _ _) _ _ _ _ :: _) _ _); refine wpList_store_whole _ rfl 257 _ _ rfl (u2).heap.size _ #[.int .i64 0, .int .i64 0, .int .i64 0, .int .i64 0, .int .u64 0, .int .u64 0, .int .u64 0, .nilFunc] 257 rfl rfl (pBlk_made u2 #[.int .i64 0, .int .i64 0, .int .i64 0, .int .i64 0, .int .u64 0, .int .u64 0, .int .u64 0, .nilFunc] 257) shape_size rfl (by simp [Value.oneCell']) ?_; intro w2 hp2 hb3 hz2; obtain ⟨r0, r1, r2, r3, r4, r5, r6, r7⟩ := cells8 hp2))
      have hB3 := (hB2.alloc hB2.size (.cells #[.int .i64 0, .int .i64 0, .int .i64 0, .int .i64 0, .int .u64 0, .int .u64 0, .int .u64 0, .nilFunc] 257)).trans (hb3.mono hB2.size)
      have hpB := pBlk_keep (pBlk_st _ _ _ _ _ hpA ((Below.refl _ _).alloc (Nat.le_refl _) (.cells #[.int .i64 0, .int .i64 0, .int .i64 0, .int .i64 0, .int .u64 0, .int .u64 0, .int .u64 0, .nilFunc] 257))) hb3 (by have := hb.size; have := hb2.size; simp at *; omega)
      refine (hpt.out _).mono ?_
      rintro e u3 ⟨rfl, hb4⟩
      have hpC := pBlk_st _ _ _ _ _ hpB hb4
      have hsC := pBlk_st _ _ _ _ _ hp2 hb4
      clear r0 r1 r2 r3 r4 r5 r6 r7
      obtain ⟨r0, r1, r2, r3, r4, r5, r6, r7⟩ := cells8 hsC
      go_wp2_with fail
      refine (hcl.out _).mono ?_
      rintro e u4 ⟨rfl, hb5⟩
      have hpD := pBlk_st _ _ _ _ _ hpC hb5
      have hsD := pBlk_st _ _ _ _ _ hsC hb5
      obtain ⟨p0, p1, p2, p3⟩ := cells4 hpD
      have f0 := hpD.free 0
      have f1 := hpD.free 1
      have hB5 := (hB3.trans (hb4.mono hB3.size)).trans (hb5.mono (Nat.le_trans hB3.size hb4.size))
      clear hpt hcl hof hfn
      clear r0 r1 r2 r3 r4 r5 r6 r7
      have hpE : pBlk w.heap.size #[.int .i64 1, .bool ng, .int .u64 0, .int .i64 0] 85 ((u4.setCell ⟨w.heap.size, 0, none⟩ (.int .i64 1)).setCell ⟨w.heap.size, 1, none⟩ (.bool ng)) := (hpD.setX 0 _).setX 1 _
      obtain ⟨q0, q1, q2, q3⟩ := cells4 hpE
      have hBE : Below w.heap.size w ((u4.setCell ⟨w.heap.size, 0, none⟩ (.int .i64 1)).setCell ⟨w.heap.size, 1, none⟩ (.bool ng)) := (hB5.setCell (p := ⟨w.heap.size, 0, none⟩) (Nat.le_refl _) _).setCell (p := ⟨w.heap.size, 1, none⟩) (Nat.le_refl _) _
      go_wp2_with ((with_reducible show wpList _ _ _ (Oper.mk _ (Op.store 85 _ _) _ _ _ _ :: _) _ _); refine wpList_store_whole _ rfl 85 _ _ rfl w.heap.size #[.int .i64 1, .bool ng, .int .u64 0, .int .i64 0] #[.int .i64 1, .bool ng, .int .u64 0, .int .i64 0] 85 rfl rfl hpE value_size rfl (by simp [Value.oneCell']) ?_; intro u5 hp2 hb2 hz2; obtain ⟨r0, r1, r2, r3⟩ := cells4 hp2)
      exact bodyPost_ret (v := .tuple #[.agg #[.int .i64 1, .bool ng, .int .u64 0, .int .i64 0], .int .i64 0]) (by simp [results, Tryz.results105, go_sem, r0, r1, r2, r3]) rfl ⟨rfl, hBE.trans hb2⟩
  · have hn : decN id p = partN id p := by unfold decN; rw [if_neg (by rw [hc]; decide)]
    have hm : decM id p = (magV id 0 (partK id p).toNat).1 := by unfold decM; rw [if_pos hc]
    have he : decE id p = (magV id 0 (partK id p).toNat).2 := by unfold decE; rw [if_pos hc]
    obtain ⟨x1, x2, x3, x4⟩ := class_two h1 h2 hp0 hp1 hc
    have hkn := partK_nonneg (id := id) hp0
    have hok := mag_own (key := (partK id p).toNat) h1 h2 (by omega) (fun h => by have := x3 (by omega); omega)
    have hnm := fun w hW => num_any id h1 h2 0 (partK id p).toNat 0 (partK id p) rfl (by omega) hok w hW
    rw [hn, hm, he, hc]
    rw [hc] at hcl
    clear hn hm he hc hf0 hp1 hp64 x1 x2 x3 x4 hok hkn
    generalize magV id 0 (partK id p).toNat = mg at hnm ⊢
    obtain ⟨mv, ev⟩ := mg
    generalize partN id p = ng at hpt ⊢
    generalize partK id p = key at hpt hcl hnm
    rcases numI_cases (fK id) with hI | hI | hI | hI
    all_goals
      rw [hI] at hnm hof hpt hcl
      replace hnm := Lib.hid hnm
      go_enter Tryz.func105, Tryz.ntmps105
      go_wp2_with fail
      refine (hfn.out _ (hW.below ((Below.refl _ _).alloc (Nat.le_refl _) _))).mono ?_
      rintro e u1 ⟨rfl, hb⟩
      have hB : Below w.heap.size w u1 := ((Below.refl _ _).alloc (Nat.le_refl _) _).trans (hb.mono (by simp))
      have hp := pBlk_st _ _ _ _ _ (pBlk_made w #[.int .i64 0, .bool false, .int .u64 0, .int .i64 0] 85) hb
      go_wp2_with fail
      refine (hof.out _ (hW.below hB)).mono ?_
      rintro e u2 ⟨rfl, hb2⟩
      have hpA := pBlk_st _ _ _ _ _ hp hb2
      have hB2 := hB.trans (hb2.mono hB.size)
      go_wp2_with (first | ((with_reducible show wpList _ _ _ (Oper.mk _ (Op.store 257 _ _) _ _ _ _ :: _) _ _); refine wpList_store_whole _ rfl 257 _ _ rfl (u2).heap.size _ #[.int .i64 0, .int .i64 0, .int .i64 0, .int .i64 0, .int .u64 0, .int .u64 0, .int .u64 0, .nilFunc] 257 rfl rfl (pBlk_made u2 #[.int .i64 0, .int .i64 0, .int .i64 0, .int .i64 0, .int .u64 0, .int .u64 0, .int .u64 0, .nilFunc] 257) shape_size rfl (by simp [Value.oneCell']) ?_; intro w2 hp2 hb3 hz2; obtain ⟨r0, r1, r2, r3, r4, r5, r6, r7⟩ := cells8 hp2))
      have hB3 := (hB2.alloc hB2.size (.cells #[.int .i64 0, .int .i64 0, .int .i64 0, .int .i64 0, .int .u64 0, .int .u64 0, .int .u64 0, .nilFunc] 257)).trans (hb3.mono hB2.size)
      have hpB := pBlk_keep (pBlk_st _ _ _ _ _ hpA ((Below.refl _ _).alloc (Nat.le_refl _) (.cells #[.int .i64 0, .int .i64 0, .int .i64 0, .int .i64 0, .int .u64 0, .int .u64 0, .int .u64 0, .nilFunc] 257))) hb3 (by have := hb.size; have := hb2.size; simp at *; omega)
      refine (hpt.out _).mono ?_
      rintro e u3 ⟨rfl, hb4⟩
      have hpC := pBlk_st _ _ _ _ _ hpB hb4
      have hsC := pBlk_st _ _ _ _ _ hp2 hb4
      clear r0 r1 r2 r3 r4 r5 r6 r7
      obtain ⟨r0, r1, r2, r3, r4, r5, r6, r7⟩ := cells8 hsC
      go_wp2_with fail
      refine (hcl.out _).mono ?_
      rintro e u4 ⟨rfl, hb5⟩
      have hpD := pBlk_st _ _ _ _ _ hpC hb5
      have hsD := pBlk_st _ _ _ _ _ hsC hb5
      obtain ⟨p0, p1, p2, p3⟩ := cells4 hpD
      have f0 := hpD.free 0
      have f1 := hpD.free 1
      have hB5 := (hB3.trans (hb4.mono hB3.size)).trans (hb5.mono (Nat.le_trans hB3.size hb4.size))
      clear hpt hcl hof hfn
      clear r0 r1 r2 r3 r4 r5 r6 r7
      have hpE : pBlk w.heap.size #[.int .i64 2, .bool ng, .int .u64 0, .int .i64 0] 85 ((u4.setCell ⟨w.heap.size, 0, none⟩ (.int .i64 2)).setCell ⟨w.heap.size, 1, none⟩ (.bool ng)) := (hpD.setX 0 _).setX 1 _
      have hBE : Below w.heap.size w ((u4.setCell ⟨w.heap.size, 0, none⟩ (.int .i64 2)).setCell ⟨w.heap.size, 1, none⟩ (.bool ng)) := (hB5.setCell (p := ⟨w.heap.size, 0, none⟩) (Nat.le_refl _) _).setCell (p := ⟨w.heap.size, 1, none⟩) (Nat.le_refl _) _
      have hne : u2.heap.size ≠ w.heap.size := by have := hb.size; have := hb2.size; simp at *; omega
      have hnb : ∀ i o : Nat, (⟨w.heap.size, i, none⟩ : Addr) ≠ ⟨u2.heap.size, o, none⟩ := fun i o e => hne (by injection e with e; exact e.symm)
      have r : ∀ o : Nat, ((u4.setCell ⟨w.heap.size, 0, none⟩ (.int .i64 2)).setCell ⟨w.heap.size, 1, none⟩ (.bool ng)).cell? ⟨u2.heap.size, o, none⟩ = u4.cell? ⟨u2.heap.size, o, none⟩ := fun o => by
        rw [World.cell?_setCell_other _ _ _ _ (hnb 1 o), World.cell?_setCell_other _ _ _ _ (hnb 0 o)]
      obtain ⟨s0, s1, s2, s3, s4, s5, s6, s7⟩ := cells8 hsD
      have t0 := (r 0).trans s0
      have t1 := (r 1).trans s1
      have t2 := (r 2).trans s2
      have t3 := (r 3).trans s3
      have t4 := (r 4).trans s4
      have t5 := (r 5).trans s5
      have t6 := (r 6).trans s6
      have t7 := (r 7).trans s7
      clear r hnb s0 s1 s2 s3 s4 s5 s6 s7
      go_wp2_with fail
      refine (hnm.out _ (hW.below hBE)).mono ?_
      rintro e u6 ⟨rfl, hb6⟩
      have hpF := pBlk_st _ _ _ _ _ hpE hb6
      have hB6 := hBE.trans (hb6.mono hBE.size)
      clear p0 p1 p2 p3 f0 f1 t0 t1 t2 t3 t4 t5 t6 t7
      obtain ⟨p0, p1, p2, p3⟩ := cells4 hpF
      have f2 := hpF.free 2
      have f3 := hpF.free 3
      have hpG : pBlk w.heap.size #[.int .i64 2, .bool ng, .int .u64 mv, .int .i64 ev] 85 ((u6.setCell ⟨w.heap.size, 2, none⟩ (.int .u64 mv)).setCell ⟨w.heap.size, 3, none⟩ (.int .i64 ev)) := (hpF.setX 2 _).setX 3 _
      have hBG : Below w.heap.size w ((u6.setCell ⟨w.heap.size, 2, none⟩ (.int .u64 mv)).setCell ⟨w.heap.size, 3, none⟩ (.int .i64 ev)) := (hB6.setCell (p := ⟨w.heap.size, 2, none⟩) (Nat.le_refl _) _).setCell (p := ⟨w.heap.size, 3, none⟩) (Nat.le_refl _) _
      obtain ⟨q0, q1, q2, q3⟩ := cells4 hpG
      go_wp2_with ((with_reducible show wpList _ _ _ (Oper.mk _ (Op.store 85 _ _) _ _ _ _ :: _) _ _); refine wpList_store_whole _ rfl 85 _ _ rfl w.heap.size #[.int .i64 2, .bool ng, .int .u64 mv, .int .i64 ev] #[.int .i64 2, .bool ng, .int .u64 mv, .int .i64 ev] 85 rfl rfl hpG value_size rfl (by simp [Value.oneCell']) ?_; intro u5 hp2 hb2 hz2; obtain ⟨r0, r1, r2, r3⟩ := cells4 hp2)
      exact bodyPost_ret (v := .tuple #[.agg #[.int .i64 2, .bool ng, .int .u64 mv, .int .i64 ev], .int .i64 0]) (by simp [results, Tryz.results105, go_sem, r0, r1, r2, r3]) rfl ⟨rfl, hBG.trans hb2⟩
  · have hn : decN id p = partN id p := by unfold decN; rw [if_neg (by rw [hc]; decide)]
    have hm : decM id p = 0 := by unfold decM; rw [if_neg (by rw [hc]; decide)]
    have he : decE id p = 0 := by unfold decE; rw [if_neg (by rw [hc]; decide)]
    rw [hn, hm, he, hc]
    rw [hc] at hcl
    clear hn hm he hc hf0 hp1 hp64
    generalize partN id p = ng at hpt ⊢
    generalize partK id p = key at hpt hcl
    all_goals
      go_enter Tryz.func105, Tryz.ntmps105
      go_wp2_with fail
      refine (hfn.out _ (hW.below ((Below.refl _ _).alloc (Nat.le_refl _) _))).mono ?_
      rintro e u1 ⟨rfl, hb⟩
      have hB : Below w.heap.size w u1 := ((Below.refl _ _).alloc (Nat.le_refl _) _).trans (hb.mono (by simp))
      have hp := pBlk_st _ _ _ _ _ (pBlk_made w #[.int .i64 0, .bool false, .int .u64 0, .int .i64 0] 85) hb
      go_wp2_with fail
      refine (hof.out _ (hW.below hB)).mono ?_
      rintro e u2 ⟨rfl, hb2⟩
      have hpA := pBlk_st _ _ _ _ _ hp hb2
      have hB2 := hB.trans (hb2.mono hB.size)
      go_wp2_with (first | ((with_reducible show wpList _ _ _ (Oper.mk _ (Op.store 257 _ _) _ _ _ _ :: _) _ _); refine wpList_store_whole _ rfl 257 _ _ rfl (u2).heap.size _ #[.int .i64 0, .int .i64 0, .int .i64 0, .int .i64 0, .int .u64 0, .int .u64 0, .int .u64 0, .nilFunc] 257 rfl rfl (pBlk_made u2 #[.int .i64 0, .int .i64 0, .int .i64 0, .int .i64 0, .int .u64 0, .int .u64 0, .int .u64 0, .nilFunc] 257) shape_size rfl (by simp [Value.oneCell']) ?_; intro w2 hp2 hb3 hz2; obtain ⟨r0, r1, r2, r3, r4, r5, r6, r7⟩ := cells8 hp2))
      have hB3 := (hB2.alloc hB2.size (.cells #[.int .i64 0, .int .i64 0, .int .i64 0, .int .i64 0, .int .u64 0, .int .u64 0, .int .u64 0, .nilFunc] 257)).trans (hb3.mono hB2.size)
      have hpB := pBlk_keep (pBlk_st _ _ _ _ _ hpA ((Below.refl _ _).alloc (Nat.le_refl _) (.cells #[.int .i64 0, .int .i64 0, .int .i64 0, .int .i64 0, .int .u64 0, .int .u64 0, .int .u64 0, .nilFunc] 257))) hb3 (by have := hb.size; have := hb2.size; simp at *; omega)
      refine (hpt.out _).mono ?_
      rintro e u3 ⟨rfl, hb4⟩
      have hpC := pBlk_st _ _ _ _ _ hpB hb4
      have hsC := pBlk_st _ _ _ _ _ hp2 hb4
      clear r0 r1 r2 r3 r4 r5 r6 r7
      obtain ⟨r0, r1, r2, r3, r4, r5, r6, r7⟩ := cells8 hsC
      go_wp2_with fail
      refine (hcl.out _).mono ?_
      rintro e u4 ⟨rfl, hb5⟩
      have hpD := pBlk_st _ _ _ _ _ hpC hb5
      have hsD := pBlk_st _ _ _ _ _ hsC hb5
      obtain ⟨p0, p1, p2, p3⟩ := cells4 hpD
      have f0 := hpD.free 0
      have f1 := hpD.free 1
      have hB5 := (hB3.trans (hb4.mono hB3.size)).trans (hb5.mono (Nat.le_trans hB3.size hb4.size))
      clear hpt hcl hof hfn
      clear r0 r1 r2 r3 r4 r5 r6 r7
      have hpE : pBlk w.heap.size #[.int .i64 3, .bool ng, .int .u64 0, .int .i64 0] 85 ((u4.setCell ⟨w.heap.size, 0, none⟩ (.int .i64 3)).setCell ⟨w.heap.size, 1, none⟩ (.bool ng)) := (hpD.setX 0 _).setX 1 _
      obtain ⟨q0, q1, q2, q3⟩ := cells4 hpE
      have hBE : Below w.heap.size w ((u4.setCell ⟨w.heap.size, 0, none⟩ (.int .i64 3)).setCell ⟨w.heap.size, 1, none⟩ (.bool ng)) := (hB5.setCell (p := ⟨w.heap.size, 0, none⟩) (Nat.le_refl _) _).setCell (p := ⟨w.heap.size, 1, none⟩) (Nat.le_refl _) _
      go_wp2_with ((with_reducible show wpList _ _ _ (Oper.mk _ (Op.store 85 _ _) _ _ _ _ :: _) _ _); refine wpList_store_whole _ rfl 85 _ _ rfl w.heap.size #[.int .i64 3, .bool ng, .int .u64 0, .int .i64 0] #[.int .i64 3, .bool ng, .int .u64 0, .int .i64 0] 85 rfl rfl hpE value_size rfl (by simp [Value.oneCell']) ?_; intro u5 hp2 hb2 hz2; obtain ⟨r0, r1, r2, r3⟩ := cells4 hp2)
      exact bodyPost_ret (v := .tuple #[.agg #[.int .i64 3, .bool ng, .int .u64 0, .int .i64 0], .int .i64 0]) (by simp [results, Tryz.results105, go_sem, r0, r1, r2, r3]) rfl ⟨rfl, hBE.trans hb2⟩
  · have hn : decN id p = false := by unfold decN; rw [if_pos hc]
    have hm : decM id p = 0 := by unfold decM; rw [if_neg (by rw [hc]; decide)]
    have he : decE id p = 0 := by unfold decE; rw [if_neg (by rw [hc]; decide)]
    rw [hn, hm, he, hc]
    rw [hc] at hcl
    clear hn hm he hc hf0 hp1 hp64
    generalize partN id p = ng at hpt
    generalize partK id p = key at hpt hcl
    all_goals
      go_enter Tryz.func105, Tryz.ntmps105
      go_wp2_with fail
      refine (hfn.out _ (hW.below ((Below.refl _ _).alloc (Nat.le_refl _) _))).mono ?_
      rintro e u1 ⟨rfl, hb⟩
      have hB : Below w.heap.size w u1 := ((Below.refl _ _).alloc (Nat.le_refl _) _).trans (hb.mono (by simp))
      have hp := pBlk_st _ _ _ _ _ (pBlk_made w #[.int .i64 0, .bool false, .int .u64 0, .int .i64 0] 85) hb
      go_wp2_with fail
      refine (hof.out _ (hW.below hB)).mono ?_
      rintro e u2 ⟨rfl, hb2⟩
      have hpA := pBlk_st _ _ _ _ _ hp hb2
      have hB2 := hB.trans (hb2.mono hB.size)
      go_wp2_with (first | ((with_reducible show wpList _ _ _ (Oper.mk _ (Op.store 257 _ _) _ _ _ _ :: _) _ _); refine wpList_store_whole _ rfl 257 _ _ rfl (u2).heap.size _ #[.int .i64 0, .int .i64 0, .int .i64 0, .int .i64 0, .int .u64 0, .int .u64 0, .int .u64 0, .nilFunc] 257 rfl rfl (pBlk_made u2 #[.int .i64 0, .int .i64 0, .int .i64 0, .int .i64 0, .int .u64 0, .int .u64 0, .int .u64 0, .nilFunc] 257) shape_size rfl (by simp [Value.oneCell']) ?_; intro w2 hp2 hb3 hz2; obtain ⟨r0, r1, r2, r3, r4, r5, r6, r7⟩ := cells8 hp2))
      have hB3 := (hB2.alloc hB2.size (.cells #[.int .i64 0, .int .i64 0, .int .i64 0, .int .i64 0, .int .u64 0, .int .u64 0, .int .u64 0, .nilFunc] 257)).trans (hb3.mono hB2.size)
      have hpB := pBlk_keep (pBlk_st _ _ _ _ _ hpA ((Below.refl _ _).alloc (Nat.le_refl _) (.cells #[.int .i64 0, .int .i64 0, .int .i64 0, .int .i64 0, .int .u64 0, .int .u64 0, .int .u64 0, .nilFunc] 257))) hb3 (by have := hb.size; have := hb2.size; simp at *; omega)
      refine (hpt.out _).mono ?_
      rintro e u3 ⟨rfl, hb4⟩
      have hpC := pBlk_st _ _ _ _ _ hpB hb4
      have hsC := pBlk_st _ _ _ _ _ hp2 hb4
      clear r0 r1 r2 r3 r4 r5 r6 r7
      obtain ⟨r0, r1, r2, r3, r4, r5, r6, r7⟩ := cells8 hsC
      go_wp2_with fail
      refine (hcl.out _).mono ?_
      rintro e u4 ⟨rfl, hb5⟩
      have hpD := pBlk_st _ _ _ _ _ hpC hb5
      have hsD := pBlk_st _ _ _ _ _ hsC hb5
      obtain ⟨p0, p1, p2, p3⟩ := cells4 hpD
      have f0 := hpD.free 0
      have f1 := hpD.free 1
      have hB5 := (hB3.trans (hb4.mono hB3.size)).trans (hb5.mono (Nat.le_trans hB3.size hb4.size))
      clear hpt hcl hof hfn
      clear r0 r1 r2 r3 r4 r5 r6 r7
      have hpE : pBlk w.heap.size #[.int .i64 4, .bool false, .int .u64 0, .int .i64 0] 85 (u4.setCell ⟨w.heap.size, 0, none⟩ (.int .i64 4)) := hpD.setX 0 _
      obtain ⟨q0, q1, q2, q3⟩ := cells4 hpE
      have hBE : Below w.heap.size w (u4.setCell ⟨w.heap.size, 0, none⟩ (.int .i64 4)) := hB5.setCell (p := ⟨w.heap.size, 0, none⟩) (Nat.le_refl _) _
      go_wp2_with ((with_reducible show wpList _ _ _ (Oper.mk _ (Op.store 85 _ _) _ _ _ _ :: _) _ _); refine wpList_store_whole _ rfl 85 _ _ rfl w.heap.size #[.int .i64 4, .bool false, .int .u64 0, .int .i64 0] #[.int .i64 4, .bool false, .int .u64 0, .int .i64 0] 85 rfl rfl hpE value_size rfl (by simp [Value.oneCell']) ?_; intro u5 hp2 hb2 hz2; obtain ⟨r0, r1, r2, r3⟩ := cells4 hp2)
      exact bodyPost_ret (v := .tuple #[.agg #[.int .i64 4, .bool false, .int .u64 0, .int .i64 0], .int .i64 0]) (by simp [results, Tryz.results105, go_sem, r0, r1, r2, r3]) rfl ⟨rfl, hBE.trans hb2⟩
end Go.Proofs.YtobokaafmcfeaaaGreatDoor
namespace Go.Proofs.YtobokaafmcfeaaaGreatDoor
open Go.RowKit Go.Cal
theorem num_bigX {N n : Nat} (h : n ≤ 2000) (hN : N < 10 ^ n) : N < 18446744073709551616 ^ 128 := by
  have hx : ∀ e f : Nat, n ≤ e → 4 * e ≤ 64 * f → N < 18446744073709551616 ^ f := by
    intro e f h1 hf
    have h1 : 10 ^ n ≤ 10 ^ e := Nat.pow_le_pow_right (by decide) h1
    have h3 : 10 ^ e ≤ 16 ^ e := Nat.pow_le_pow_left (by decide) _
    have h4 : (16 : Nat) ^ e = 2 ^ (4 * e) := by rw [Nat.pow_mul]
    have h5 : (18446744073709551616 : Nat) ^ f = 2 ^ (64 * f) := by rw [Nat.pow_mul]
    have h6 : 2 ^ (4 * e) ≤ 2 ^ (64 * f) := Nat.pow_le_pow_right (by decide) hf
    omega
  exact hx 2000 128 h (by decide)
/-- A number that is told is within what may be. -/
structure ItemOk (it : Cal.Item) : Prop where
  big : it.big = 0 ∨ it.big = 1 ∨ it.big = -1
  num : it.big = 0 → it.d < 18446744073709551616 ^ 128 ∧ -5000 ≤ it.k ∧ it.k ≤ 5000
theorem item_ok (neg : Bool) (ds : List UInt8) (k : Int) (hd : ∀ c ∈ ds, isDig c = true) : ItemOk (itemV neg ds k) := by
  have ha : ∀ c ∈ trR (trL ds), isDig c = true := fun c hc => hd c ((trL_suffix ds).mem ((trR_prefix _).mem hc))
  unfold itemV
  simp only
  generalize trR (trL ds) = b at ha ⊢
  generalize k + ((trL ds).length - (b.length : Int)) = k1
  split
  · exact ⟨.inl rfl, fun _ => ⟨show 0 < (18446744073709551616 : Nat) ^ 128 by decide, show (-5000 : Int) ≤ 0 by decide, show (0 : Int) ≤ 5000 by decide⟩⟩
  · split
    · exact ⟨.inr (.inl rfl), fun h => absurd (show (1 : Int) = 0 from h) (by decide)⟩
    · split
      · exact ⟨.inr (.inr rfl), fun h => absurd (show (-1 : Int) = 0 from h) (by decide)⟩
      · split
        · rename_i h1 h2 h3 h4
          refine ⟨.inl rfl, fun _ => ⟨?_, by simp only; omega, by simp only; omega⟩⟩
          have hl : (b.take 1990 ++ [49]).length = 1991 := by simp; omega
          have := numV_lt (b.take 1990 ++ [49]) (fun c hc => by
            rcases List.mem_append.1 hc with h | h
            · exact ha c (List.mem_of_mem_take h)
            · rw [List.mem_singleton.1 h]; rfl)
          rw [hl] at this
          exact num_bigX (by decide) this
        · rename_i h1 h2 h3 h4
          refine ⟨.inl rfl, fun _ => ⟨?_, by simp only; omega, by simp only; omega⟩⟩
          exact num_bigX (by omega) (numV_lt b ha)
theorem body_item (C : Nat) (neg : Bool) (t : List UInt8) : (bodyV C neg t).neg = neg ∧ (((bodyV C neg t).kind = 1 ∧ ItemOk (bodyV C neg t)) ∨ (bodyV C neg t).kind = 2 ∨ (bodyV C neg t).kind = 3 ∨ (bodyV C neg t).kind = 4) := by
  have hw : wordK t = 0 ∨ wordK t = 2 ∨ wordK t = 3 ∨ wordK t = 4 := by
    unfold wordK
    by_cases a : t = wINF
    · rw [if_pos a]; exact .inr (.inl rfl)
    · rw [if_neg a]
      by_cases b : t = wNAN
      · rw [if_pos b]; exact .inr (.inr (.inl rfl))
      · rw [if_neg b]
        by_cases c : t = wNAR
        · rw [if_pos c]; exact .inr (.inr (.inr rfl))
        · rw [if_neg c]; exact .inl rfl
  unfold bodyV
  by_cases h : wordK t ≠ 0
  · rw [if_pos h]
    refine ⟨rfl, .inr ?_⟩
    rcases hw with h1 | h1 | h1 | h1
    · exact absurd h1 h
    · exact .inl h1
    · exact .inr (.inl h1)
    · exact .inr (.inr h1)
  · rw [if_neg h]
    have hk : (itemV neg (numD t) (expV C (numR t) - (numB t : Int))).kind = 1 ∧ (itemV neg (numD t) (expV C (numR t) - (numB t : Int))).neg = neg := by
      unfold itemV
      simp only
      repeat' split
      all_goals exact ⟨rfl, rfl⟩
    exact ⟨hk.2, .inl ⟨hk.1, item_ok _ _ _ (numD_digs t)⟩⟩
theorem text_item (C : Nat) (l : List UInt8) : ((textV C l).kind = 1 ∧ ItemOk (textV C l)) ∨ (textV C l).kind = 2 ∨ (textV C l).kind = 3 ∨ (textV C l).kind = 4 := by
  unfold textV
  split
  · exact (body_item C true _).2
  · exact (body_item C false _).2
end Go.Proofs.YtobokaafmcfeaaaGreatDoor
namespace Go.Proofs.YtobokaafmcfeaaaGreatDoor
open Go.RowKit Go.Cal
theorem round_nat {id mode : Int} {neg : Bool} {P Q : Nat} (hE : roundE id mode = 0) : 0 ≤ roundP id mode neg P Q := by
  have hid : 1 ≤ id ∧ id < 15 := by
    unfold roundE at hE
    split at hE <;> omega
  unfold roundP
  split
  · exact (ft_bounds id).2.2.2.2.2.1
  · rename_i h4
    have hm : mostE id neg = 0 := by
      unfold mostE
      rw [if_neg (by omega), if_neg (fun h => h4 ⟨h.2, .inl h.1⟩)]
    have hb := mostV_bnd id neg
    split
    · unfold largeV
      have hf := ft_bounds id
      split
      · exact (pat_bnd hm (by omega) (Int.le_refl _)).1
      · split
        · exact hf.2.2.2.2.2.1
        · split
          · have := pow_pos ((fW id).toNat - 1); omega
          · exact hf.2.2.2.2.1
    · exact (pat_bnd hm (Int.natCast_nonneg _) (nearK_le id neg P Q)).1
end Go.Proofs.YtobokaafmcfeaaaGreatDoor
namespace Go.Proofs.YtobokaafmcfeaaaGreatDoor
open Go.RowKit Go.Cal
/-- A number's pattern: what Decode and Key tell of it. -/
structure Fin (id p : Int) (ng : Bool) (K mv : Nat) (ev : Int) : Prop where
  h1 : 1 ≤ id
  h2 : id < 15
  p0 : 0 ≤ p
  p1 : p < 2 ^ (fW id).toNat
  cl : classV id p = 2
  ng : partN id p = ng
  key : partK id p = (K : Int)
  mag : magV id 0 K = (mv, ev)
theorem Fin.bnd {id p : Int} {ng : Bool} {K mv : Nat} {ev : Int} (h : Fin id p ng K mv ev) : 0 < mv ∧ mv < 18446744073709551616 ∧ -2000 ≤ ev ∧ ev ≤ 2000 := by
  obtain ⟨x1, x2, x3, x4⟩ := class_two h.h1 h.h2 h.p0 h.p1 h.cl
  have hk := h.key
  obtain ⟨a1, a2, a3, a4, -⟩ := mag_range0 (key := K) h.h1 h.h2 (by omega) (fun h4 => by have := x3 h4; omega)
  rw [h.mag] at a1 a2 a3 a4
  exact ⟨a1, a2, a3, a4⟩
end Go.Proofs.YtobokaafmcfeaaaGreatDoor
namespace Go.Proofs.YtobokaafmcfeaaaGreatDoor
open Go.RowKit Go.Cal
/-- What is not told in digits. -/
def wrdT (c : Int) : List UInt8 := if c = 1 then [48] else if c = 3 then [105, 110, 102] else [110, 97, 110]
/-- The table of words stands in its variable. -/
def WrdW (w : World) : Prop := 2 < w.heap.size ∧ ∃ mv, w.cell? ⟨2, 0, none⟩ = some mv ∧ ∀ wr, Below w.heap.size w wr → ∀ c : Int, (c = 1 ∨ c = 3 ∨ c = 4) → (Instr.lookup 159 mv (.int .i64 c) false).run Tryz.prog wr = .ok (.string (strL (wrdT c))) wr
theorem WrdW.below {w w' : World} (h : WrdW w) (hb : Below w.heap.size w w') : WrdW w' := by
  obtain ⟨h1, mv, h2, h3⟩ := h
  exact ⟨Nat.lt_of_lt_of_le h1 hb.size, mv, by rw [(bcell hb).1 _ _ h1]; exact h2, fun wr hr => h3 wr (hb.trans (hr.mono hb.size))⟩
theorem WrdW.out {w : World} (h : WrdW w) {c : Int} (hc : c = 1 ∨ c = 3 ∨ c = 4) : 2 < w.heap.size ∧ ∃ mv, w.cell? ⟨2, 0, none⟩ = some mv ∧ ∀ wr, Below w.heap.size w wr → (Instr.lookup 159 mv (.int .i64 c) false).run Tryz.prog wr = .ok (.string (strL (wrdT c))) wr := by
  obtain ⟨h1, mv, h2, h3⟩ := h
  exact ⟨h1, mv, h2, fun wr hr => h3 wr hr c hc⟩
/-- The variables that print reads. -/
structure PrW (w : World) : Prop where
  va : VaW w
  tab : Tab10 w
  wrd : WrdW w
theorem PrW.below {w w' : World} (h : PrW w) (hb : Below w.heap.size w w') : PrW w' := ⟨h.va.below hb, h.tab.below hb, h.wrd.below hb⟩
end Go.Proofs.YtobokaafmcfeaaaGreatDoor
namespace Go.Proofs.YtobokaafmcfeaaaGreatDoor
open Go.RowKit Go.Cal
theorem Fin.lims {id p : Int} {ng : Bool} {K mv : Nat} {ev : Int} (h : Fin id p ng K mv ev) : mostE id ng = 0 ∧ (K : Int) ≤ mostV id ng ∧ (fK id ≠ 4 → 0 < K) ∧ (K : Int) ≤ fitM id := by
  obtain ⟨x1, x2, x3, x4⟩ := class_two h.h1 h.h2 h.p0 h.p1 h.cl
  rw [h.key] at x1 x2 x3
  rw [h.ng] at x2 x4
  refine ⟨?_, x2, fun h4 => by have := x3 h4; omega, x1⟩
  have a1 := h.h1
  have a2 := h.h2
  unfold mostE
  rw [if_neg (by omega), if_neg (fun h => x4 h.1 h.2)]
end Go.Proofs.YtobokaafmcfeaaaGreatDoor
namespace Go.Proofs.YtobokaafmcfeaaaGreatDoor
open Go.RowKit Go.Cal
/-- A pattern's magnitude and what its number is, as Short and Full read them. -/
def priK (id p : Int) : Nat := (partK id p).toNat
theorem fits_two {id p : Int} (hf : fitsV id p = 0) : 1 ≤ id ∧ id < 15 ∧ p < 2 ^ (fW id).toNat := by
  unfold fitsV at hf
  split at hf
  · cases hf
  · rename_i h
    split at hf
    · exact ⟨by omega, by omega, by omega⟩
    · cases hf
theorem fin_of {id p : Int} (h1 : 1 ≤ id) (h2 : id < 15) (hp0 : 0 ≤ p) (hp1 : p < 2 ^ (fW id).toNat) (hc : classV id p = 2) : Fin id p (partN id p) (priK id p) (decM id p) (decE id p) := by
  have hk : partK id p = ((priK id p : Nat) : Int) := by
    have := partK_nonneg (id := id) hp0
    unfold priK
    omega
  refine ⟨h1, h2, hp0, hp1, hc, rfl, hk, ?_⟩
  unfold decM decE
  rw [if_pos hc, if_pos hc]
  rfl
end Go.Proofs.YtobokaafmcfeaaaGreatDoor
