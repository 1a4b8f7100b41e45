/- Values: Key, walked. Conditions: the variables that values read. -/
import Derived.Test.YtdlkfnkmdlcekaaGreatDoorValF
namespace Go.Proofs.YtdlkfnkmdlcekaaGreatDoor
open Go.RowKit Go.Cal
set_option maxRecDepth 100000 in
set_option maxHeartbeats 1000000 in
theorem vkey_yes (id p : Int) (h1 : 1 ≤ id) (h2 : id < 15) (hp0 : 0 ≤ p) (hp1 : p < 2 ^ (fW id).toNat) (hc : classV id p = 1 ∨ classV id p = 2) (w : World) (hW : VaW w) :
    Calls Tryz.prog 17 #[.int .i64 id, .int .u64 p] w fun e w' => e = .returned (.tuple #[.bool (partN id p), .int .u64 (partK id p), .int .i64 0]) ∧ Below w.heap.size w w' := by
  have hdc := fun w hW => vdec_yes id p h1 h2 hp0 hp1 w hW
  have hof := Lib.hid fun w hW => vof_yes id h1 h2 w hW
  have hpt := Lib.hid fun w => vparts_any id p h1 h2 hp0 hp1 w
  generalize decN id p = dn at hdc
  generalize decM id p = dm at hdc
  generalize decE id p = de at hdc
  generalize partN id p = ng at hpt ⊢
  generalize partK id p = key at hpt ⊢
  clear hp0 hp1
  rcases hc with hc | hc
  · rw [hc] at hdc
    replace hdc := Lib.hid hdc
    clear hc
    go_enter Tryz.func17, Tryz.ntmps17
    go_wp2_with fail
    refine (hdc.out _ hW).mono ?_
    rintro e u1 ⟨rfl, hb⟩
    go_wp2_with fail
    have hB := hb.alloc hb.size (.cells #[.int .i64 1, .bool dn, .int .u64 (dm : Nat), .int .i64 de] 25)
    refine (hof.out _ (hW.below hB)).mono ?_
    rintro e u2 ⟨rfl, hb1⟩
    have hB2 := hB.trans (hb1.mono hB.size)
    go_wp2_with (first | ((with_reducible show wpList _ _ _ (Oper.mk _ (Op.store 78 _ _) _ _ _ _ :: _) _ _); refine wpList_store_whole _ rfl 78 _ _ rfl (u2).heap.size _ #[.int .i64 0, .int .i64 0, .int .i64 0, .int .i64 0, .int .u64 0, .int .u64 0, .int .u64 0, .nilFunc] 78 rfl rfl (pBlk_made u2 #[.int .i64 0, .int .i64 0, .int .i64 0, .int .i64 0, .int .u64 0, .int .u64 0, .int .u64 0, .nilFunc] 78) shape_size rfl (by simp [Value.oneCell']) ?_; intro w2 hp2 hb3 hz2; obtain ⟨r0, r1, r2, r3, r4, r5, r6, r7⟩ := cells8 hp2))
    have hB3 := (hB2.alloc hB2.size (.cells #[.int .i64 0, .int .i64 0, .int .i64 0, .int .i64 0, .int .u64 0, .int .u64 0, .int .u64 0, .nilFunc] 78)).trans (hb3.mono hB2.size)
    refine (hpt.out _).mono ?_
    rintro e u3 ⟨rfl, hb4⟩
    go_wp2
    go_ret3
    exact ⟨rfl, hB3.trans (hb4.mono hB3.size)⟩
  · rw [hc] at hdc
    replace hdc := Lib.hid hdc
    clear hc
    go_enter Tryz.func17, Tryz.ntmps17
    go_wp2_with fail
    refine (hdc.out _ hW).mono ?_
    rintro e u1 ⟨rfl, hb⟩
    go_wp2_with fail
    have hB := hb.alloc hb.size (.cells #[.int .i64 2, .bool dn, .int .u64 (dm : Nat), .int .i64 de] 25)
    refine (hof.out _ (hW.below hB)).mono ?_
    rintro e u2 ⟨rfl, hb1⟩
    have hB2 := hB.trans (hb1.mono hB.size)
    go_wp2_with (first | ((with_reducible show wpList _ _ _ (Oper.mk _ (Op.store 78 _ _) _ _ _ _ :: _) _ _); refine wpList_store_whole _ rfl 78 _ _ rfl (u2).heap.size _ #[.int .i64 0, .int .i64 0, .int .i64 0, .int .i64 0, .int .u64 0, .int .u64 0, .int .u64 0, .nilFunc] 78 rfl rfl (pBlk_made u2 #[.int .i64 0, .int .i64 0, .int .i64 0, .int .i64 0, .int .u64 0, .int .u64 0, .int .u64 0, .nilFunc] 78) shape_size rfl (by simp [Value.oneCell']) ?_; intro w2 hp2 hb3 hz2; obtain ⟨r0, r1, r2, r3, r4, r5, r6, r7⟩ := cells8 hp2))
    have hB3 := (hB2.alloc hB2.size (.cells #[.int .i64 0, .int .i64 0, .int .i64 0, .int .i64 0, .int .u64 0, .int .u64 0, .int .u64 0, .nilFunc] 78)).trans (hb3.mono hB2.size)
    refine (hpt.out _).mono ?_
    rintro e u3 ⟨rfl, hb4⟩
    go_wp2
    go_ret3
    exact ⟨rfl, hB3.trans (hb4.mono hB3.size)⟩
set_option maxRecDepth 100000 in
set_option maxHeartbeats 1000000 in
theorem vkey_form (id p : Int) (hp0 : 0 ≤ p) (hp1 : p < 18446744073709551616) (hf : fitsV id p ≠ 0) (w : World) (hW : VaW w) :
    Calls Tryz.prog 17 #[.int .i64 id, .int .u64 p] w fun e w' => e = .returned (.tuple #[.bool false, .int .u64 0, .int .i64 (fitsV id p)]) ∧ Below w.heap.size w w' := by
  have hdc := Lib.hid fun w hW => vdec_no id p hp0 hp1 hf w hW
  have hff : (fitsV id p != 0) = true := by simp [hf]
  generalize fitsV id p = E at hdc hff ⊢
  clear hf hp0 hp1
  go_enter Tryz.func17, Tryz.ntmps17
  go_wp2_with fail
  refine (hdc.out _ hW).mono ?_
  rintro e u1 ⟨rfl, hb⟩
  go_wp2
  go_ret3
  exact ⟨rfl, hb.alloc hb.size _⟩
set_option maxRecDepth 100000 in
set_option maxHeartbeats 1000000 in
theorem vkey_none (id p : Int) (h1 : 1 ≤ id) (h2 : id < 15) (hp0 : 0 ≤ p) (hp1 : p < 2 ^ (fW id).toNat) (hc : classV id p = 3 ∨ classV id p = 4) (w : World) (hW : VaW w) :
    Calls Tryz.prog 17 #[.int .i64 id, .int .u64 p] w fun e w' => e = .returned (.tuple #[.bool false, .int .u64 0, .int .i64 5]) ∧ Below w.heap.size w w' := by
  have hdc := fun w hW => vdec_yes id p h1 h2 hp0 hp1 w hW
  generalize decN id p = dn at hdc
  generalize decM id p = dm at hdc
  generalize decE id p = de at hdc
  clear hp0 hp1
  rcases hc with hc | hc
  all_goals
    rw [hc] at hdc
    replace hdc := Lib.hid hdc
    clear hc
    go_enter Tryz.func17, Tryz.ntmps17
    go_wp2_with fail
    refine (hdc.out _ hW).mono ?_
    rintro e u1 ⟨rfl, hb⟩
    go_wp2
    go_ret3
    exact ⟨rfl, hb.alloc hb.size _⟩
end Go.Proofs.YtdlkfnkmdlcekaaGreatDoor
