/- The document's values: Decode; walked. Conditions: none. -/
/- The document's sums, products, divisions of numbers; the highest place, whole parts; walked. Conditions: none. -/
import Derived.Test.YtncfbleeidjflaaGreatDoorPz40
import Derived.Test.YtncfbleeidjflaaGreatDoorPz32
import Derived.Test.YtncfbleeidjflaaGreatDoorPz38
import Derived.Test.YtncfbleeidjflaaGreatDoorPz28
import Derived.Test.YtncfbleeidjflaaGreatDoorPz27
import Derived.Test.YtncfbleeidjflaaGreatDoorPz02
namespace Go.Proofs.YtncfbleeidjflaaGreatDoor
open Go.RowKit Go.Cal
theorem rvalue_size : (Tryz.prog.info? 46).map (·.size) = some 4 := by kernel_rfl
set_option maxRecDepth 100000 in
set_option maxHeartbeats 4000000 in
theorem rdec7_no (id p : Int) (hf : fitsV id p ≠ 0) (w : World) :
    Calls Tryz.prog 25 #[.int .i64 id, .int .u64 p] w fun e w' => e = .returned (.tuple #[.agg #[.int .i64 0, .bool false, .int .u64 0, .int .i64 0], .int .i64 (fitsV id p)]) ∧ Below w.heap.size w w' := by
  have hfn := Lib.hid fun w => rfits_any id p w
  have hb0 := (Below.refl w.heap.size w).alloc (Nat.le_refl _) (.cells #[.int .i64 0, .bool false, .int .u64 0, .int .i64 0] 46)
  have hr0 := pBlk_made w #[.int .i64 0, .bool false, .int .u64 0, .int .i64 0] 46
  obtain ⟨E, hE⟩ : ∃ E, fitsV id p = E := ⟨_, rfl⟩
  rw [hE] at hfn hf ⊢
  have hne : (E != 0) = true := by simpa using hf
  go_enter Tryz.func25, Tryz.ntmps25
  go_wp2_with fail
  refine (hfn.out _).mono ?_
  rintro e u1 ⟨rfl, hb1⟩
  have hB1 := hb0.trans (hb1.mono hb0.size)
  have hr1 := pBlk_st _ _ _ _ _ hr0 hb1
  clear hb0 hr0 hb1
  go_wp2_with (first | ((with_reducible show wpList _ _ _ (Oper.mk _ (Op.store 46 _ _) _ _ _ _ :: _) _ _); refine wpList_store_whole _ rfl 46 _ _ rfl w.heap.size #[.int .i64 0, .bool false, .int .u64 0, .int .i64 0] #[.int .i64 0, .bool false, .int .u64 0, .int .i64 0] 46 rfl rfl hr1 rvalue_size rfl (by simp [Value.oneCell']) ?_; intro wz hz hbz hzz; obtain ⟨z0, z1, z2, z3⟩ := cells4E hz))
  exact bodyPost_ret (v := .tuple #[.agg #[.int .i64 0, .bool false, .int .u64 0, .int .i64 0], .int .i64 E]) (by simp [results, Tryz.results25, go_sem, z0, z1, z2, z3]) rfl ⟨rfl, hB1.trans hbz⟩
theorem class_signed {id p : Int} (h1 : 1 ≤ id) (h2 : id < 15) (hp0 : 0 ≤ p) (hp1 : p < 2 ^ (fW id).toNat) (hc : classV id p = 1 ∨ classV id p = 3) : partN id p = false ∨ partN id p = true ∧ (fK id == 2) = true := by
  cases hN : partN id p with
  | false => exact .inl rfl
  | true =>
    refine .inr ⟨rfl, ?_⟩
    by_cases k2 : fK id = 2
    · simp [k2]
    exfalso
    rcases class7_cases (p := p) h1 h2 with ⟨b1, -⟩ | ⟨b1, -⟩ | ⟨hA, hB⟩ | ⟨-, -, -, -, b⟩
    · simp [k2] at b1
    · simp [k2] at b1
    · rcases hB with ⟨c1, -, -⟩ | ⟨-, -, c⟩ | ⟨-, c⟩
      · have hK : partK id p = 0 := by simpa using c1
        unfold partK at hK
        rw [if_neg (by rw [hN]; decide), if_neg k2] at hK
        have hp : 0 < p := by
          have hN' := hN
          unfold partN at hN'
          simp at hN'
          have : (0 : Int) < 2 ^ ((fW id).toNat - 1) := Int.pow_pos (by decide)
          omega
        rw [part_flip hp hp1] at hK
        omega
      · rcases hc with h | h <;> rw [h] at c <;> exact absurd c (by decide)
      · rcases hc with h | h <;> rw [h] at c <;> exact absurd c (by decide)
    · rcases hc with h | h <;> rw [h] at b <;> exact absurd b (by decide)
set_option maxRecDepth 100000 in
set_option maxHeartbeats 8000000 in
theorem rdec7_yes (id p : Int) (h1 : 1 ≤ id) (h2 : id < 15) (hp0 : 0 ≤ p) (hp1 : p < 2 ^ (fW id).toNat) (w : World) :
    Calls Tryz.prog 25 #[.int .i64 id, .int .u64 p] w fun e w' => e = .returned (.tuple #[.agg #[.int .i64 (classV id p), .bool (decN id p), .int .u64 (decM id p : Nat), .int .i64 (decE id p)], .int .i64 0]) ∧ Below w.heap.size w w' := by
  have hf0 : fitsV id p = 0 := by unfold fitsV; rw [if_neg (by omega), if_pos hp1]
  have hfn := fun w => rfits_any id p w
  rw [hf0] at hfn
  replace hfn := Lib.hid hfn
  have hof := Lib.hid fun w => rof_yes id w h1 h2
  have hpt := Lib.hid fun w => rparts7_any id p h1 h2 hp0 hp1 w
  have hcl := Lib.hid fun w => rclass7_any id p h1 h2 hp0 hp1 w
  have hb0 := (Below.refl w.heap.size w).alloc (Nat.le_refl _) (.cells #[.int .i64 0, .bool false, .int .u64 0, .int .i64 0] 46)
  have hr0 := pBlk_made w #[.int .i64 0, .bool false, .int .u64 0, .int .i64 0] 46
  have hc : classV id p = 1 ∨ classV id p = 2 ∨ classV id p = 3 ∨ classV id p = 4 := by
    unfold classV; repeat' split
    all_goals simp
  rcases hc with hc | hc | hc | hc
  · have hsg := class_signed h1 h2 hp0 hp1 (.inl hc)
    have hn : decN id p = partN id p := by unfold decN; rw [if_neg (by rw [hc]; decide)]
    have hm : decM id p = 0 := by unfold decM; rw [if_neg (by rw [hc]; decide)]
    have he : decE id p = 0 := by unfold decE; rw [if_neg (by rw [hc]; decide)]
    rw [hn, hm, he, hc]
    rw [hc] at hcl
    clear hn hm he hc hf0 hp1 hp0 h1 h2
    generalize partN id p = ng at hpt hsg ⊢
    generalize partK id p = K at hpt
    rcases hsg with rfl | ⟨rfl, b2⟩
    · all_goals
       skip
      go_enter Tryz.func25, Tryz.ntmps25
      go_wp2_with fail
      refine (hfn.out _).mono ?_
      rintro e u1 ⟨rfl, hb1⟩
      have hB1 := hb0.trans (hb1.mono hb0.size)
      have hr1 := pBlk_st _ _ _ _ _ hr0 hb1
      go_wp2_with fail
      refine (hof.out _).mono ?_
      rintro e u2 ⟨rfl, hb2⟩
      have hB2 := hB1.trans (hb2.mono hB1.size)
      have hal := (Below.refl u2.heap.size u2).alloc (Nat.le_refl _) (.cells #[.int .i64 (fK id), .int .i64 (fW id), .int .i64 (fM id), .int .i64 (fB id), .int .u64 (fT id), .int .u64 (fI id), .int .u64 (fN id)] 73)
      have hF3 := pBlk_made u2 #[.int .i64 (fK id), .int .i64 (fW id), .int .i64 (fM id), .int .i64 (fB id), .int .u64 (fT id), .int .u64 (fI id), .int .u64 (fN id)] 73
      have hr3 := pBlk_st _ _ _ _ _ (pBlk_st _ _ _ _ _ hr1 hb2) hal
      have hB3 := hB2.trans (hal.mono hB2.size)
      obtain ⟨q0, q1, q2, q3, q4, q5, q6⟩ := cells7R hF3
      have ql := hF3.lt
      have hle1 := hB2.size
      clear hal hb1 hb2 hr1 hB1 hB2
      go_wp2_with fail
      refine (hpt.out _).mono ?_
      rintro e u4 ⟨rfl, hb4⟩
      have hB4 := hB3.trans (hb4.mono hB3.size)
      have hF4 := pBlk_st _ _ _ _ _ hF3 hb4
      have hr4 := pBlk_st _ _ _ _ _ hr3 hb4
      clear q0 q1 q2 q3 q4 q5 q6 ql hF3 hr3 hb4 hB3
      go_wp2_with fail
      refine (hcl.out _).mono ?_
      rintro e u5 ⟨rfl, hb5⟩
      have hB5 := hB4.trans (hb5.mono hB4.size)
      have hF5 := pBlk_st _ _ _ _ _ hF4 hb5
      have hr5 := pBlk_st _ _ _ _ _ hr4 hb5
      have hal := (Below.refl u5.heap.size u5).alloc (Nat.le_refl _) (.cells #[.int .i64 1, .bool false, .int .u64 0, .int .i64 0] 46)
      have hF6 := pBlk_st _ _ _ _ _ (pBlk_st _ _ _ _ _ hF4 hb5) hal
      have hr6 := pBlk_st _ _ _ _ _ (pBlk_st _ _ _ _ _ hr4 hb5) hal
      have hv6 := pBlk_made u5 #[.int .i64 1, .bool false, .int .u64 0, .int .i64 0] 46
      have hB6 := hB5.trans (hal.mono hB5.size)
      have hne : w.heap.size ≠ u5.heap.size := by
        have := (pBlk_st _ _ _ _ _ hr4 hb5).lt
        omega
      have hneF : u2.heap.size ≠ u5.heap.size := by
        have := (pBlk_st _ _ _ _ _ hF4 hb5).lt
        omega
      obtain ⟨q0, q1, q2, q3, q4, q5, q6⟩ := cells7R hF6
      obtain ⟨p0, p1, p2, p3⟩ := cells4E hv6
      have f1 := hv6.free 1
      have ql := hF6.lt
      have pl := hv6.lt
      have h5le := hB5.size
      clear hal hF4 hr4 hb5 hB4
      have hal := (Below.refl u5.heap.size u5).alloc (Nat.le_refl _) (.cells #[.int .i64 1, .bool false, .int .u64 0, .int .i64 0] 46)
      have hpv := pBlk_made u5 #[.int .i64 1, .bool false, .int .u64 0, .int .i64 0] 46
      have hrv := pBlk_st _ _ _ _ _ hr5 hal
      have hBv := hB5.trans (hal.mono h5le)
      obtain ⟨s0, s1, s2, s3⟩ := cells4E hpv
      go_wp2_with (first | ((with_reducible show wpList _ _ _ (Oper.mk _ (Op.store 46 _ _) _ _ _ _ :: _) _ _); refine wpList_store_whole _ rfl 46 _ _ rfl w.heap.size #[.int .i64 1, .bool false, .int .u64 0, .int .i64 0] #[.int .i64 0, .bool false, .int .u64 0, .int .i64 0] 46 rfl rfl hrv rvalue_size rfl (by simp [Value.oneCell']) ?_; intro wz hz hbz hzz; obtain ⟨z0, z1, z2, z3⟩ := cells4E hz))
      exact bodyPost_ret (v := .tuple #[.agg #[.int .i64 1, .bool false, .int .u64 0, .int .i64 0], .int .i64 0]) (by simp [results, Tryz.results25, go_sem, z0, z1, z2, z3]) rfl ⟨rfl, (hBv).trans hbz⟩
    · all_goals
       skip
      go_enter Tryz.func25, Tryz.ntmps25
      go_wp2_with fail
      refine (hfn.out _).mono ?_
      rintro e u1 ⟨rfl, hb1⟩
      have hB1 := hb0.trans (hb1.mono hb0.size)
      have hr1 := pBlk_st _ _ _ _ _ hr0 hb1
      go_wp2_with fail
      refine (hof.out _).mono ?_
      rintro e u2 ⟨rfl, hb2⟩
      have hB2 := hB1.trans (hb2.mono hB1.size)
      have hal := (Below.refl u2.heap.size u2).alloc (Nat.le_refl _) (.cells #[.int .i64 (fK id), .int .i64 (fW id), .int .i64 (fM id), .int .i64 (fB id), .int .u64 (fT id), .int .u64 (fI id), .int .u64 (fN id)] 73)
      have hF3 := pBlk_made u2 #[.int .i64 (fK id), .int .i64 (fW id), .int .i64 (fM id), .int .i64 (fB id), .int .u64 (fT id), .int .u64 (fI id), .int .u64 (fN id)] 73
      have hr3 := pBlk_st _ _ _ _ _ (pBlk_st _ _ _ _ _ hr1 hb2) hal
      have hB3 := hB2.trans (hal.mono hB2.size)
      obtain ⟨q0, q1, q2, q3, q4, q5, q6⟩ := cells7R hF3
      have ql := hF3.lt
      have hle1 := hB2.size
      clear hal hb1 hb2 hr1 hB1 hB2
      go_wp2_with fail
      refine (hpt.out _).mono ?_
      rintro e u4 ⟨rfl, hb4⟩
      have hB4 := hB3.trans (hb4.mono hB3.size)
      have hF4 := pBlk_st _ _ _ _ _ hF3 hb4
      have hr4 := pBlk_st _ _ _ _ _ hr3 hb4
      clear q0 q1 q2 q3 q4 q5 q6 ql hF3 hr3 hb4 hB3
      go_wp2_with fail
      refine (hcl.out _).mono ?_
      rintro e u5 ⟨rfl, hb5⟩
      have hB5 := hB4.trans (hb5.mono hB4.size)
      have hF5 := pBlk_st _ _ _ _ _ hF4 hb5
      have hr5 := pBlk_st _ _ _ _ _ hr4 hb5
      have hal := (Below.refl u5.heap.size u5).alloc (Nat.le_refl _) (.cells #[.int .i64 1, .bool false, .int .u64 0, .int .i64 0] 46)
      have hF6 := pBlk_st _ _ _ _ _ (pBlk_st _ _ _ _ _ hF4 hb5) hal
      have hr6 := pBlk_st _ _ _ _ _ (pBlk_st _ _ _ _ _ hr4 hb5) hal
      have hv6 := pBlk_made u5 #[.int .i64 1, .bool false, .int .u64 0, .int .i64 0] 46
      have hB6 := hB5.trans (hal.mono hB5.size)
      have hne : w.heap.size ≠ u5.heap.size := by
        have := (pBlk_st _ _ _ _ _ hr4 hb5).lt
        omega
      have hneF : u2.heap.size ≠ u5.heap.size := by
        have := (pBlk_st _ _ _ _ _ hF4 hb5).lt
        omega
      obtain ⟨q0, q1, q2, q3, q4, q5, q6⟩ := cells7R hF6
      obtain ⟨p0, p1, p2, p3⟩ := cells4E hv6
      have f1 := hv6.free 1
      have ql := hF6.lt
      have pl := hv6.lt
      have h5le := hB5.size
      clear hal hF4 hr4 hb5 hB4
      have hal := (Below.refl u5.heap.size u5).alloc (Nat.le_refl _) (.cells #[.int .i64 1, .bool true, .int .u64 0, .int .i64 0] 46)
      have hpv := pBlk_made u5 #[.int .i64 1, .bool true, .int .u64 0, .int .i64 0] 46
      have hrv := pBlk_st _ _ _ _ _ hr5 hal
      have hBv := hB5.trans (hal.mono h5le)
      obtain ⟨s0, s1, s2, s3⟩ := cells4E hpv
      go_wp2_with (first | ((with_reducible show wpList _ _ _ (Oper.mk _ (Op.store 46 _ _) _ _ _ _ :: _) _ _); refine wpList_store_whole _ rfl 46 _ _ rfl w.heap.size #[.int .i64 1, .bool true, .int .u64 0, .int .i64 0] #[.int .i64 0, .bool false, .int .u64 0, .int .i64 0] 46 rfl rfl hrv rvalue_size rfl (by simp [Value.oneCell']) ?_; intro wz hz hbz hzz; obtain ⟨z0, z1, z2, z3⟩ := cells4E hz))
      exact bodyPost_ret (v := .tuple #[.agg #[.int .i64 1, .bool true, .int .u64 0, .int .i64 0], .int .i64 0]) (by simp [results, Tryz.results25, go_sem, z0, z1, z2, z3]) rfl ⟨rfl, (hBv).trans hbz⟩
  · have hn : decN id p = partN id p := by unfold decN; rw [if_neg (by rw [hc]; decide)]
    have hm : decM id p = (magV id 0 (partK id p).toNat).1 := by unfold decM; rw [if_pos hc]
    have he : decE id p = (magV id 0 (partK id p).toNat).2 := by unfold decE; rw [if_pos hc]
    obtain ⟨x1, x2, x3, x4⟩ := class_two h1 h2 hp0 hp1 hc
    have hkn := partK_nonneg (id := id) hp0
    have hmg := fun w => rmag7_any id h1 h2 (partK id p).toNat (by omega) (fun h => by have := x3 (by omega); omega) w
    rw [show (((partK id p).toNat : Nat) : Int) = partK id p by omega] at hmg
    rw [hn, hm, he, hc]
    rw [hc] at hcl
    clear hn hm he hc hf0 hp1 x1 x2 x3 x4 hkn hp0 h1 h2
    generalize magV id 0 (partK id p).toNat = mg at hmg ⊢
    obtain ⟨mv, ev⟩ := mg
    generalize partN id p = ng at hpt ⊢
    generalize partK id p = K at hpt hmg
    replace hmg := Lib.hid hmg
    · all_goals
       skip
      go_enter Tryz.func25, Tryz.ntmps25
      go_wp2_with fail
      refine (hfn.out _).mono ?_
      rintro e u1 ⟨rfl, hb1⟩
      have hB1 := hb0.trans (hb1.mono hb0.size)
      have hr1 := pBlk_st _ _ _ _ _ hr0 hb1
      go_wp2_with fail
      refine (hof.out _).mono ?_
      rintro e u2 ⟨rfl, hb2⟩
      have hB2 := hB1.trans (hb2.mono hB1.size)
      have hal := (Below.refl u2.heap.size u2).alloc (Nat.le_refl _) (.cells #[.int .i64 (fK id), .int .i64 (fW id), .int .i64 (fM id), .int .i64 (fB id), .int .u64 (fT id), .int .u64 (fI id), .int .u64 (fN id)] 73)
      have hF3 := pBlk_made u2 #[.int .i64 (fK id), .int .i64 (fW id), .int .i64 (fM id), .int .i64 (fB id), .int .u64 (fT id), .int .u64 (fI id), .int .u64 (fN id)] 73
      have hr3 := pBlk_st _ _ _ _ _ (pBlk_st _ _ _ _ _ hr1 hb2) hal
      have hB3 := hB2.trans (hal.mono hB2.size)
      obtain ⟨q0, q1, q2, q3, q4, q5, q6⟩ := cells7R hF3
      have ql := hF3.lt
      have hle1 := hB2.size
      clear hal hb1 hb2 hr1 hB1 hB2
      go_wp2_with fail
      refine (hpt.out _).mono ?_
      rintro e u4 ⟨rfl, hb4⟩
      have hB4 := hB3.trans (hb4.mono hB3.size)
      have hF4 := pBlk_st _ _ _ _ _ hF3 hb4
      have hr4 := pBlk_st _ _ _ _ _ hr3 hb4
      clear q0 q1 q2 q3 q4 q5 q6 ql hF3 hr3 hb4 hB3
      go_wp2_with fail
      refine (hcl.out _).mono ?_
      rintro e u5 ⟨rfl, hb5⟩
      have hB5 := hB4.trans (hb5.mono hB4.size)
      have hF5 := pBlk_st _ _ _ _ _ hF4 hb5
      have hr5 := pBlk_st _ _ _ _ _ hr4 hb5
      have hal := (Below.refl u5.heap.size u5).alloc (Nat.le_refl _) (.cells #[.int .i64 2, .bool false, .int .u64 0, .int .i64 0] 46)
      have hF6 := pBlk_st _ _ _ _ _ (pBlk_st _ _ _ _ _ hF4 hb5) hal
      have hr6 := pBlk_st _ _ _ _ _ (pBlk_st _ _ _ _ _ hr4 hb5) hal
      have hv6 := pBlk_made u5 #[.int .i64 2, .bool false, .int .u64 0, .int .i64 0] 46
      have hB6 := hB5.trans (hal.mono hB5.size)
      have hne : w.heap.size ≠ u5.heap.size := by
        have := (pBlk_st _ _ _ _ _ hr4 hb5).lt
        omega
      have hneF : u2.heap.size ≠ u5.heap.size := by
        have := (pBlk_st _ _ _ _ _ hF4 hb5).lt
        omega
      obtain ⟨q0, q1, q2, q3, q4, q5, q6⟩ := cells7R hF6
      obtain ⟨p0, p1, p2, p3⟩ := cells4E hv6
      have f1 := hv6.free 1
      have ql := hF6.lt
      have pl := hv6.lt
      have h5le := hB5.size
      clear hal hF4 hr4 hb5 hB4
      have hal7 := (Below.refl u5.heap.size u5).alloc (Nat.le_refl _) (.cells #[.int .i64 2, .bool ng, .int .u64 0, .int .i64 0] 46)
      have hv7 := pBlk_made u5 #[.int .i64 2, .bool ng, .int .u64 0, .int .i64 0] 46
      have hr7 := pBlk_st _ _ _ _ _ hr5 hal7
      have hF7 := pBlk_st _ _ _ _ _ hF5 hal7
      have hB7 := hB5.trans (hal7.mono h5le)
      clear hal7
      obtain ⟨t0, t1, t2, t3, t4, t5, t6⟩ := cells7R hF7
      have tl := hF7.lt
      go_wp2_with fail
      refine (hmg.out _).mono ?_
      rintro e u8 ⟨rfl, hb8⟩
      have hv8 := pBlk_st _ _ _ _ _ hv7 hb8
      have hr8 := pBlk_st _ _ _ _ _ hr7 hb8
      have hB8 := hB7.trans (hb8.mono hB7.size)
      clear q0 q1 q2 q3 q4 q5 q6 p0 p1 p2 p3 t0 t1 t2 t3 t4 t5 t6 f1 ql pl tl hv6 hr6 hF6 hv7 hr7 hF7 hb8 hB6 hB7
      obtain ⟨p0, p1, p2, p3⟩ := cells4E hv8
      have f2 := hv8.free 2
      have f3 := hv8.free 3
      have pl := hv8.lt
      have hv9 : pBlk u5.heap.size #[.int .i64 2, .bool ng, .int .u64 mv, .int .i64 ev] 46 ((u8.setCell ⟨u5.heap.size, 2, none⟩ (.int .u64 mv)).setCell ⟨u5.heap.size, 3, none⟩ (.int .i64 ev)) := (hv8.setX 2 _).setX 3 _
      have hr9 : pBlk w.heap.size #[.int .i64 0, .bool false, .int .u64 0, .int .i64 0] 46 ((u8.setCell ⟨u5.heap.size, 2, none⟩ (.int .u64 mv)).setCell ⟨u5.heap.size, 3, none⟩ (.int .i64 ev)) := (hr8.othX hne 2 _).othX hne 3 _
      have hB9 := (hB8.setCell (p := ⟨u5.heap.size, 2, none⟩) h5le (.int .u64 mv)).setCell (p := ⟨u5.heap.size, 3, none⟩) h5le (.int .i64 ev)
      obtain ⟨s0, s1, s2, s3⟩ := cells4E hv9
      go_wp2_with (first | ((with_reducible show wpList _ _ _ (Oper.mk _ (Op.store 46 _ _) _ _ _ _ :: _) _ _); refine wpList_store_whole _ rfl 46 _ _ rfl w.heap.size #[.int .i64 2, .bool ng, .int .u64 mv, .int .i64 ev] #[.int .i64 0, .bool false, .int .u64 0, .int .i64 0] 46 rfl rfl hr9 rvalue_size rfl (by simp [Value.oneCell']) ?_; intro wz hz hbz hzz; obtain ⟨z0, z1, z2, z3⟩ := cells4E hz))
      exact bodyPost_ret (v := .tuple #[.agg #[.int .i64 2, .bool ng, .int .u64 mv, .int .i64 ev], .int .i64 0]) (by simp [results, Tryz.results25, go_sem, z0, z1, z2, z3]) rfl ⟨rfl, (hB9).trans hbz⟩
  · have hsg := class_signed h1 h2 hp0 hp1 (.inr hc)
    have hn : decN id p = partN id p := by unfold decN; rw [if_neg (by rw [hc]; decide)]
    have hm : decM id p = 0 := by unfold decM; rw [if_neg (by rw [hc]; decide)]
    have he : decE id p = 0 := by unfold decE; rw [if_neg (by rw [hc]; decide)]
    rw [hn, hm, he, hc]
    rw [hc] at hcl
    clear hn hm he hc hf0 hp1 hp0 h1 h2
    generalize partN id p = ng at hpt hsg ⊢
    generalize partK id p = K at hpt
    rcases hsg with rfl | ⟨rfl, b2⟩
    · all_goals
       skip
      go_enter Tryz.func25, Tryz.ntmps25
      go_wp2_with fail
      refine (hfn.out _).mono ?_
      rintro e u1 ⟨rfl, hb1⟩
      have hB1 := hb0.trans (hb1.mono hb0.size)
      have hr1 := pBlk_st _ _ _ _ _ hr0 hb1
      go_wp2_with fail
      refine (hof.out _).mono ?_
      rintro e u2 ⟨rfl, hb2⟩
      have hB2 := hB1.trans (hb2.mono hB1.size)
      have hal := (Below.refl u2.heap.size u2).alloc (Nat.le_refl _) (.cells #[.int .i64 (fK id), .int .i64 (fW id), .int .i64 (fM id), .int .i64 (fB id), .int .u64 (fT id), .int .u64 (fI id), .int .u64 (fN id)] 73)
      have hF3 := pBlk_made u2 #[.int .i64 (fK id), .int .i64 (fW id), .int .i64 (fM id), .int .i64 (fB id), .int .u64 (fT id), .int .u64 (fI id), .int .u64 (fN id)] 73
      have hr3 := pBlk_st _ _ _ _ _ (pBlk_st _ _ _ _ _ hr1 hb2) hal
      have hB3 := hB2.trans (hal.mono hB2.size)
      obtain ⟨q0, q1, q2, q3, q4, q5, q6⟩ := cells7R hF3
      have ql := hF3.lt
      have hle1 := hB2.size
      clear hal hb1 hb2 hr1 hB1 hB2
      go_wp2_with fail
      refine (hpt.out _).mono ?_
      rintro e u4 ⟨rfl, hb4⟩
      have hB4 := hB3.trans (hb4.mono hB3.size)
      have hF4 := pBlk_st _ _ _ _ _ hF3 hb4
      have hr4 := pBlk_st _ _ _ _ _ hr3 hb4
      clear q0 q1 q2 q3 q4 q5 q6 ql hF3 hr3 hb4 hB3
      go_wp2_with fail
      refine (hcl.out _).mono ?_
      rintro e u5 ⟨rfl, hb5⟩
      have hB5 := hB4.trans (hb5.mono hB4.size)
      have hF5 := pBlk_st _ _ _ _ _ hF4 hb5
      have hr5 := pBlk_st _ _ _ _ _ hr4 hb5
      have hal := (Below.refl u5.heap.size u5).alloc (Nat.le_refl _) (.cells #[.int .i64 3, .bool false, .int .u64 0, .int .i64 0] 46)
      have hF6 := pBlk_st _ _ _ _ _ (pBlk_st _ _ _ _ _ hF4 hb5) hal
      have hr6 := pBlk_st _ _ _ _ _ (pBlk_st _ _ _ _ _ hr4 hb5) hal
      have hv6 := pBlk_made u5 #[.int .i64 3, .bool false, .int .u64 0, .int .i64 0] 46
      have hB6 := hB5.trans (hal.mono hB5.size)
      have hne : w.heap.size ≠ u5.heap.size := by
        have := (pBlk_st _ _ _ _ _ hr4 hb5).lt
        omega
      have hneF : u2.heap.size ≠ u5.heap.size := by
        have := (pBlk_st _ _ _ _ _ hF4 hb5).lt
        omega
      obtain ⟨q0, q1, q2, q3, q4, q5, q6⟩ := cells7R hF6
      obtain ⟨p0, p1, p2, p3⟩ := cells4E hv6
      have f1 := hv6.free 1
      have ql := hF6.lt
      have pl := hv6.lt
      have h5le := hB5.size
      clear hal hF4 hr4 hb5 hB4
      have hal := (Below.refl u5.heap.size u5).alloc (Nat.le_refl _) (.cells #[.int .i64 3, .bool false, .int .u64 0, .int .i64 0] 46)
      have hpv := pBlk_made u5 #[.int .i64 3, .bool false, .int .u64 0, .int .i64 0] 46
      have hrv := pBlk_st _ _ _ _ _ hr5 hal
      have hBv := hB5.trans (hal.mono h5le)
      obtain ⟨s0, s1, s2, s3⟩ := cells4E hpv
      go_wp2_with (first | ((with_reducible show wpList _ _ _ (Oper.mk _ (Op.store 46 _ _) _ _ _ _ :: _) _ _); refine wpList_store_whole _ rfl 46 _ _ rfl w.heap.size #[.int .i64 3, .bool false, .int .u64 0, .int .i64 0] #[.int .i64 0, .bool false, .int .u64 0, .int .i64 0] 46 rfl rfl hrv rvalue_size rfl (by simp [Value.oneCell']) ?_; intro wz hz hbz hzz; obtain ⟨z0, z1, z2, z3⟩ := cells4E hz))
      exact bodyPost_ret (v := .tuple #[.agg #[.int .i64 3, .bool false, .int .u64 0, .int .i64 0], .int .i64 0]) (by simp [results, Tryz.results25, go_sem, z0, z1, z2, z3]) rfl ⟨rfl, (hBv).trans hbz⟩
    · all_goals
       skip
      go_enter Tryz.func25, Tryz.ntmps25
      go_wp2_with fail
      refine (hfn.out _).mono ?_
      rintro e u1 ⟨rfl, hb1⟩
      have hB1 := hb0.trans (hb1.mono hb0.size)
      have hr1 := pBlk_st _ _ _ _ _ hr0 hb1
      go_wp2_with fail
      refine (hof.out _).mono ?_
      rintro e u2 ⟨rfl, hb2⟩
      have hB2 := hB1.trans (hb2.mono hB1.size)
      have hal := (Below.refl u2.heap.size u2).alloc (Nat.le_refl _) (.cells #[.int .i64 (fK id), .int .i64 (fW id), .int .i64 (fM id), .int .i64 (fB id), .int .u64 (fT id), .int .u64 (fI id), .int .u64 (fN id)] 73)
      have hF3 := pBlk_made u2 #[.int .i64 (fK id), .int .i64 (fW id), .int .i64 (fM id), .int .i64 (fB id), .int .u64 (fT id), .int .u64 (fI id), .int .u64 (fN id)] 73
      have hr3 := pBlk_st _ _ _ _ _ (pBlk_st _ _ _ _ _ hr1 hb2) hal
      have hB3 := hB2.trans (hal.mono hB2.size)
      obtain ⟨q0, q1, q2, q3, q4, q5, q6⟩ := cells7R hF3
      have ql := hF3.lt
      have hle1 := hB2.size
      clear hal hb1 hb2 hr1 hB1 hB2
      go_wp2_with fail
      refine (hpt.out _).mono ?_
      rintro e u4 ⟨rfl, hb4⟩
      have hB4 := hB3.trans (hb4.mono hB3.size)
      have hF4 := pBlk_st _ _ _ _ _ hF3 hb4
      have hr4 := pBlk_st _ _ _ _ _ hr3 hb4
      clear q0 q1 q2 q3 q4 q5 q6 ql hF3 hr3 hb4 hB3
      go_wp2_with fail
      refine (hcl.out _).mono ?_
      rintro e u5 ⟨rfl, hb5⟩
      have hB5 := hB4.trans (hb5.mono hB4.size)
      have hF5 := pBlk_st _ _ _ _ _ hF4 hb5
      have hr5 := pBlk_st _ _ _ _ _ hr4 hb5
      have hal := (Below.refl u5.heap.size u5).alloc (Nat.le_refl _) (.cells #[.int .i64 3, .bool false, .int .u64 0, .int .i64 0] 46)
      have hF6 := pBlk_st _ _ _ _ _ (pBlk_st _ _ _ _ _ hF4 hb5) hal
      have hr6 := pBlk_st _ _ _ _ _ (pBlk_st _ _ _ _ _ hr4 hb5) hal
      have hv6 := pBlk_made u5 #[.int .i64 3, .bool false, .int .u64 0, .int .i64 0] 46
      have hB6 := hB5.trans (hal.mono hB5.size)
      have hne : w.heap.size ≠ u5.heap.size := by
        have := (pBlk_st _ _ _ _ _ hr4 hb5).lt
        omega
      have hneF : u2.heap.size ≠ u5.heap.size := by
        have := (pBlk_st _ _ _ _ _ hF4 hb5).lt
        omega
      obtain ⟨q0, q1, q2, q3, q4, q5, q6⟩ := cells7R hF6
      obtain ⟨p0, p1, p2, p3⟩ := cells4E hv6
      have f1 := hv6.free 1
      have ql := hF6.lt
      have pl := hv6.lt
      have h5le := hB5.size
      clear hal hF4 hr4 hb5 hB4
      have hal := (Below.refl u5.heap.size u5).alloc (Nat.le_refl _) (.cells #[.int .i64 3, .bool true, .int .u64 0, .int .i64 0] 46)
      have hpv := pBlk_made u5 #[.int .i64 3, .bool true, .int .u64 0, .int .i64 0] 46
      have hrv := pBlk_st _ _ _ _ _ hr5 hal
      have hBv := hB5.trans (hal.mono h5le)
      obtain ⟨s0, s1, s2, s3⟩ := cells4E hpv
      go_wp2_with (first | ((with_reducible show wpList _ _ _ (Oper.mk _ (Op.store 46 _ _) _ _ _ _ :: _) _ _); refine wpList_store_whole _ rfl 46 _ _ rfl w.heap.size #[.int .i64 3, .bool true, .int .u64 0, .int .i64 0] #[.int .i64 0, .bool false, .int .u64 0, .int .i64 0] 46 rfl rfl hrv rvalue_size rfl (by simp [Value.oneCell']) ?_; intro wz hz hbz hzz; obtain ⟨z0, z1, z2, z3⟩ := cells4E hz))
      exact bodyPost_ret (v := .tuple #[.agg #[.int .i64 3, .bool true, .int .u64 0, .int .i64 0], .int .i64 0]) (by simp [results, Tryz.results25, go_sem, z0, z1, z2, z3]) rfl ⟨rfl, (hBv).trans hbz⟩
  · have hn : decN id p = false := by unfold decN; rw [if_pos hc]
    have hm : decM id p = 0 := by unfold decM; rw [if_neg (by rw [hc]; decide)]
    have he : decE id p = 0 := by unfold decE; rw [if_neg (by rw [hc]; decide)]
    rw [hn, hm, he, hc]
    rw [hc] at hcl
    clear hn hm he hc hf0 hp1 hp0 h1 h2
    generalize partN id p = ng at hpt
    generalize partK id p = K at hpt
    · all_goals
       skip
      go_enter Tryz.func25, Tryz.ntmps25
      go_wp2_with fail
      refine (hfn.out _).mono ?_
      rintro e u1 ⟨rfl, hb1⟩
      have hB1 := hb0.trans (hb1.mono hb0.size)
      have hr1 := pBlk_st _ _ _ _ _ hr0 hb1
      go_wp2_with fail
      refine (hof.out _).mono ?_
      rintro e u2 ⟨rfl, hb2⟩
      have hB2 := hB1.trans (hb2.mono hB1.size)
      have hal := (Below.refl u2.heap.size u2).alloc (Nat.le_refl _) (.cells #[.int .i64 (fK id), .int .i64 (fW id), .int .i64 (fM id), .int .i64 (fB id), .int .u64 (fT id), .int .u64 (fI id), .int .u64 (fN id)] 73)
      have hF3 := pBlk_made u2 #[.int .i64 (fK id), .int .i64 (fW id), .int .i64 (fM id), .int .i64 (fB id), .int .u64 (fT id), .int .u64 (fI id), .int .u64 (fN id)] 73
      have hr3 := pBlk_st _ _ _ _ _ (pBlk_st _ _ _ _ _ hr1 hb2) hal
      have hB3 := hB2.trans (hal.mono hB2.size)
      obtain ⟨q0, q1, q2, q3, q4, q5, q6⟩ := cells7R hF3
      have ql := hF3.lt
      have hle1 := hB2.size
      clear hal hb1 hb2 hr1 hB1 hB2
      go_wp2_with fail
      refine (hpt.out _).mono ?_
      rintro e u4 ⟨rfl, hb4⟩
      have hB4 := hB3.trans (hb4.mono hB3.size)
      have hF4 := pBlk_st _ _ _ _ _ hF3 hb4
      have hr4 := pBlk_st _ _ _ _ _ hr3 hb4
      clear q0 q1 q2 q3 q4 q5 q6 ql hF3 hr3 hb4 hB3
      go_wp2_with fail
      refine (hcl.out _).mono ?_
      rintro e u5 ⟨rfl, hb5⟩
      have hB5 := hB4.trans (hb5.mono hB4.size)
      have hF5 := pBlk_st _ _ _ _ _ hF4 hb5
      have hr5 := pBlk_st _ _ _ _ _ hr4 hb5
      have hal := (Below.refl u5.heap.size u5).alloc (Nat.le_refl _) (.cells #[.int .i64 4, .bool false, .int .u64 0, .int .i64 0] 46)
      have hF6 := pBlk_st _ _ _ _ _ (pBlk_st _ _ _ _ _ hF4 hb5) hal
      have hr6 := pBlk_st _ _ _ _ _ (pBlk_st _ _ _ _ _ hr4 hb5) hal
      have hv6 := pBlk_made u5 #[.int .i64 4, .bool false, .int .u64 0, .int .i64 0] 46
      have hB6 := hB5.trans (hal.mono hB5.size)
      have hne : w.heap.size ≠ u5.heap.size := by
        have := (pBlk_st _ _ _ _ _ hr4 hb5).lt
        omega
      have hneF : u2.heap.size ≠ u5.heap.size := by
        have := (pBlk_st _ _ _ _ _ hF4 hb5).lt
        omega
      obtain ⟨q0, q1, q2, q3, q4, q5, q6⟩ := cells7R hF6
      obtain ⟨p0, p1, p2, p3⟩ := cells4E hv6
      have f1 := hv6.free 1
      have ql := hF6.lt
      have pl := hv6.lt
      have h5le := hB5.size
      clear hal hF4 hr4 hb5 hB4
      go_wp2_with (first | ((with_reducible show wpList _ _ _ (Oper.mk _ (Op.store 46 _ _) _ _ _ _ :: _) _ _); refine wpList_store_whole _ rfl 46 _ _ rfl w.heap.size #[.int .i64 4, .bool false, .int .u64 0, .int .i64 0] #[.int .i64 0, .bool false, .int .u64 0, .int .i64 0] 46 rfl rfl hr6 rvalue_size rfl (by simp [Value.oneCell']) ?_; intro wz hz hbz hzz; obtain ⟨z0, z1, z2, z3⟩ := cells4E hz))
      exact bodyPost_ret (v := .tuple #[.agg #[.int .i64 4, .bool false, .int .u64 0, .int .i64 0], .int .i64 0]) (by simp [results, Tryz.results25, go_sem, z0, z1, z2, z3]) rfl ⟨rfl, (hB6).trans hbz⟩
end Go.Proofs.YtncfbleeidjflaaGreatDoor
namespace Go.Proofs.YtncfbleeidjflaaGreatDoor
open Go.RowKit Go.Cal
theorem tellsW_t {w w' : World} {N k : Nat} {e : Ending} (h : TellsW w N e w') (hk : N < 18446744073709551616 ^ k) : ∃ v, e = .returned v ∧ IsT w' v k N ∧ Below w.heap.size w w' := by
  obtain ⟨A, c, zs, rfl, hr, h1, h2, h3, -, hb⟩ := h
  exact ⟨_, rfl, ⟨A, c, zs, rfl, hr, h1, h2, h3.length_le hk, h3⟩, hb⟩
theorem isH_len {w : World} {v : Value} {k N : Nat} (h : IsH w v k N) : ∃ A n c, v = .slice A n c ∧ (0 < n ↔ 0 < N) := by
  obtain ⟨A, c, zs, rfl, h2, h3, h4, h5, h6⟩ := h
  exact ⟨A, zs.length, c, rfl, nrmH_pos h6⟩
theorem half_word (k : Nat) : 18446744073709551616 ^ k = 4294967296 ^ (2 * k) := by rw [Nat.pow_mul]
set_option maxRecDepth 100000 in
set_option maxHeartbeats 2000000 in
theorem radd1_any {v1 v2 : Value} {k1 k2 X Y : Nat} (k' : Nat) (w : World) (h1 : IsN w v1 k1 X) (h2 : IsN w v2 k2 Y) (b1 : k1 ≤ 100000) (b2 : k2 ≤ 100000) (hk : X + Y < 18446744073709551616 ^ k') (b3 : k' ≤ 100000) :
    Calls Tryz.prog 83 #[v1, v2] w fun e w' => ∃ v, e = .returned v ∧ IsT w' v k' (X + Y) ∧ Below w.heap.size w w' := by
  have hh1 := halves_any w h1 (by omega)
  have hh2 := Lib.hid fun (W : World) (hb : Below w.heap.size w W) => halves_any W (h2.below hb) (by omega)
  have hk' : X + Y < 4294967296 ^ (2 * k') := by rw [← half_word]; exact hk
  clear h1 h2
  go_enter Tryz.func83, Tryz.ntmps83
  go_wp2_with fail
  refine hh1.mono ?_
  rintro e w1 ⟨a1, rfl, ha1, hb1, -⟩
  have hh3 := hh2.out _ hb1
  clear hh1 hh2
  go_wp2_with fail
  refine hh3.mono ?_
  rintro e w2 ⟨a2, rfl, ha2, hb2, -⟩
  have hB2 := hb1.trans (hb2.mono hb1.size)
  have hp := plus_any (2 * k') _ (IsH.below ha1 hb2) ha2 (by omega) (by omega) hk'
  clear hh3 hb1 hb2
  go_wp2_with fail
  refine hp.mono ?_
  rintro e w3 ⟨a3, rfl, ha3, hb3, -⟩
  have hB3 := hB2.trans (hb3.mono hB2.size)
  have hwd := (words_any _ ha3 (by omega)).mono fun x w' h => tellsW_t h hk
  clear hp hb3
  go_wp2_with fail
  refine hwd.mono ?_
  rintro e w4 ⟨a4, rfl, ha4, hb4⟩
  have hfin := hB3.trans (hb4.mono hB3.size)
  go_wp2
  go_ret
  exact ⟨a4, rfl, ha4, hfin⟩
set_option maxRecDepth 100000 in
set_option maxHeartbeats 2000000 in
theorem rmul1_any {v1 v2 : Value} {k1 k2 X Y : Nat} (k' : Nat) (w : World) (h1 : IsN w v1 k1 X) (h2 : IsN w v2 k2 Y) (b1 : k1 ≤ 100000) (b2 : k2 ≤ 100000) (hk : X * Y < 18446744073709551616 ^ k') :
    Calls Tryz.prog 78 #[v1, v2] w fun e w' => ∃ v, e = .returned v ∧ IsT w' v k' (X * Y) ∧ Below w.heap.size w w' := by
  have hh1 := halves_any w h1 (by omega)
  have hh2 := Lib.hid fun (W : World) (hb : Below w.heap.size w W) => halves_any W (h2.below hb) (by omega)
  clear h1 h2
  go_enter Tryz.func78, Tryz.ntmps78
  go_wp2_with fail
  refine hh1.mono ?_
  rintro e w1 ⟨a1, rfl, ha1, hb1, -⟩
  have hh3 := hh2.out _ hb1
  clear hh1 hh2
  go_wp2_with fail
  refine hh3.mono ?_
  rintro e w2 ⟨a2, rfl, ha2, hb2, -⟩
  have hB2 := hb1.trans (hb2.mono hb1.size)
  have hp := times_any _ (IsH.below ha1 hb2) ha2 (by omega) (by omega)
  clear hh3 hb1 hb2
  go_wp2_with fail
  refine hp.mono ?_
  rintro e w3 ⟨a3, rfl, ha3, hb3, -⟩
  have hB3 := hB2.trans (hb3.mono hB2.size)
  have hwd := (words_any _ ha3 (by omega)).mono fun x w' h => tellsW_t h hk
  clear hp hb3
  go_wp2_with fail
  refine hwd.mono ?_
  rintro e w4 ⟨a4, rfl, ha4, hb4⟩
  have hfin := hB3.trans (hb4.mono hB3.size)
  go_wp2
  go_ret
  exact ⟨a4, rfl, ha4, hfin⟩
set_option maxRecDepth 100000 in
set_option maxHeartbeats 2000000 in
theorem rdiv1_any {v1 v2 : Value} {k1 k2 X Y : Nat} (w : World) (h1 : IsN w v1 k1 X) (h2 : IsN w v2 k2 Y) (b1 : k1 ≤ 10000) (b2 : k2 ≤ 10000) (hY : 0 < Y) :
    Calls Tryz.prog 159 #[v1, v2] w fun e w' => ∃ q r, e = .returned (.tuple #[q, r]) ∧ IsT w' q k1 (X / Y) ∧ IsT w' r k2 (X % Y) ∧ Below w.heap.size w w' := by
  have hh1 := halves_any w h1 (by omega)
  have hh2 := Lib.hid fun (W : World) (hb : Below w.heap.size w W) => halves_any W (h2.below hb) (by omega)
  have hk1 : X / Y < 18446744073709551616 ^ k1 := Nat.lt_of_le_of_lt (Nat.div_le_self _ _) h1.lt
  have hk2 : X % Y < 18446744073709551616 ^ k2 := Nat.lt_trans (Nat.mod_lt _ hY) h2.lt
  clear h1 h2
  go_enter Tryz.func159, Tryz.ntmps159
  go_wp2_with fail
  refine hh1.mono ?_
  rintro e w1 ⟨a1, rfl, ha1, hb1, -⟩
  have hh3 := hh2.out _ hb1
  clear hh1 hh2
  go_wp2_with fail
  refine hh3.mono ?_
  rintro e w2 ⟨a2, rfl, ha2, hb2, -⟩
  have hB2 := hb1.trans (hb2.mono hb1.size)
  have hp := rover_any _ (IsH.below ha1 hb2) ha2 (by omega) (by omega) hY
  clear hh3 hb1 hb2
  go_wp2_with fail
  refine hp.mono ?_
  rintro e w3 ⟨a3, a3', rfl, ha3, ha3', hb3⟩
  have hB3 := hB2.trans (hb3.mono hB2.size)
  have hwd := (words_any _ ha3 (by omega)).mono fun x w' h => tellsW_t h hk1
  clear hp hb3
  go_wp2_with fail
  refine hwd.mono ?_
  rintro e w4 ⟨a4, rfl, ha4, hb4⟩
  have hB4 := hB3.trans (hb4.mono hB3.size)
  have hwd2 := (words_any _ (IsH.below ha3' hb4) (by omega)).mono fun x w' h => tellsW_t h hk2
  clear hwd hb4
  go_wp2_with fail
  refine hwd2.mono ?_
  rintro e w5 ⟨a5, rfl, ha5, hb5⟩
  have hfin := hB4.trans (hb5.mono hB4.size)
  have ha45 := ha4.below hb5
  go_wp2
  go_ret2
  exact ⟨a4, a5, rfl, ha45, ha5, hfin⟩
theorem flA_is (m : Nat) (e k : Int) : exP m (e - k) (-k) = flA m e k := rfl
theorem flB_is (e k : Int) : exQ (e - k) (-k) = flB e k := by
  unfold exQ flB exP
  rw [Int.neg_neg, Nat.one_mul, show -(e - k) = k - e by omega]
theorem fl_fits {m E : Nat} {e k : Int} (hE : 15000 ≤ E) (hm : m < 18446744073709551616) (he : -2000 ≤ e ∧ e ≤ 2000) (hk : -5000 ≤ k ∧ k ≤ 5000) : flA m e k < 4294967296 ^ E ∧ flB e k < 4294967296 ^ E := by
  constructor
  · have h1 := exP_fits (N := m) (k := 1) (by rw [Nat.pow_one]; exact hm) (-k).toNat (e - k).toNat
    refine Nat.lt_of_lt_of_le h1 (Nat.pow_le_pow_right (by decide) (by omega))
  · have h1 := exP_fits (N := 1) (k := 1) (by decide) k.toNat (k - e).toNat
    refine Nat.lt_of_lt_of_le h1 (Nat.pow_le_pow_right (by decide) (by omega))
theorem flB_pos9 (e k : Int) : 0 < flB e k := by rw [← flB_is]; exact exQ_pos _ _
set_option maxRecDepth 100000 in
set_option maxHeartbeats 4000000 in
theorem rfloor2_any (ng : Bool) {d : Value} {m kd : Nat} (t k : Int) (w : World) (h : IsN w d kd m) (hkd : kd ≤ 10000) (hm : m < 18446744073709551616) (ht : -2000 ≤ t ∧ t ≤ 2000) (hk : -5000 ≤ k ∧ k ≤ 5000) (K : Nat) (hK : flQ m t k < 18446744073709551616 ^ K) :
    Calls Tryz.prog 82 #[.agg #[.bool ng, d, .int .i64 t, .int .i64 0], .int .i64 k] w fun e w' => ∃ A n c, e = .returned (.tuple #[.slice A n c, .int .i64 (flR m t k)]) ∧ IsT w' (.slice A n c) K (flQ m t k) ∧ Below w.heap.size w w' := by
  have hw1 : IntKind.i64.wrap (t - k) = t - k := by rw [IntKind.wrap_i64]; omega
  have hw2 : IntKind.i64.wrap (0 - k) = -k := by rw [IntKind.wrap_i64]; omega
  have hz2 : (0 : Int) - k = -k := by omega
  have hr0 := pBlk_made w #[.bool ng, d, .int .i64 t, .int .i64 0] 71
  have hb0 := (Below.refl w.heap.size w).alloc (Nat.le_refl _) (.cells #[.bool ng, d, .int .i64 t, .int .i64 0] 71)
  have hr1 := pBlk_made w #[.bool ng, d, .int .i64 (t - k), .int .i64 (-k)] 71
  have hb1 := (Below.refl w.heap.size w).alloc (Nat.le_refl _) (.cells #[.bool ng, d, .int .i64 (t - k), .int .i64 (-k)] 71)
  obtain ⟨p0, p1, p2, p3⟩ := cells4E hr0
  obtain ⟨s0, s1, s2, s3⟩ := cells4E hr1
  have f2 := hr0.free 2
  have f3 := hr0.free 3
  have pl := hr0.lt
  have hpt := parts_any ng (t - k) (-k) _ (h.below hb1) hkd (by omega) (by omega)
  rw [flA_is, flB_is] at hpt
  obtain ⟨E, hE1, hE2⟩ : ∃ E, 15000 ≤ E ∧ E ≤ 15000 := ⟨15000, Nat.le_refl _, Nat.le_refl _⟩
  obtain ⟨hfA, hfB⟩ := fl_fits hE1 hm ht hk
  have hB0 := flB_pos9 t k
  obtain ⟨V, hV⟩ : ∃ V, flR m t k = V := ⟨_, rfl⟩
  have hR : V = if flA m t k % flB t k = 0 then 0 else 2 + cmpV ((2 * (flA m t k % flB t k) : Nat) : Int) ((flB t k : Nat) : Int) := by rw [← hV]; rfl
  have hQ : flQ m t k = flA m t k / flB t k := rfl
  rw [hV, hQ]
  rw [hQ] at hK
  generalize flA m t k = P at *
  generalize flB t k = Q at *
  clear hQ hV h
  replace hfA := Lib.hid hfA
  replace hfB := Lib.hid hfB
  replace hK := Lib.hid hK
  replace hR := Lib.hid hR
  replace hpt := Lib.hid hpt
  go_enter Tryz.func82, Tryz.ntmps82
  go_wp2_with fail
  refine hpt.out.mono ?_
  rintro e w2 ⟨pv, qv, kp, kq, rfl, hp, hq, bp, bq, hb2⟩
  have hB2 := hb1.trans (hb2.mono hb1.size)
  have hov := rover_any _ (IsH.fit hp hfA.out) (IsH.fit hq hfB.out) (by omega) (by omega) hB0
  clear p0 p1 p2 p3 s0 s1 s2 s3 f2 f3 pl hr0 hr1 hb0 hb1 hp
  go_wp2_with fail
  refine hov.mono ?_
  rintro e w3 ⟨mv, lv, rfl, hM, hL, hb3⟩
  have hB3 := hB2.trans (hb3.mono hB2.size)
  have hq3 := IsH.below (IsH.fit hq hfB.out) hb3
  obtain ⟨A2, n2, c2, rfl, hl2⟩ := isH_len hL
  clear hov hq hb3 hb2
  by_cases h0 : P % Q = 0
  · have z2 : ¬ (0 : Int) < (n2 : Int) := by omega
    have hV0 : V = 0 := by rw [hR.out, if_pos h0]
    have hwd := (words_any _ hM (by omega)).mono fun x w' h => tellsW_t h hK.out
    subst hV0
    clear hl2 hL hq3
    go_wp2_with fail
    refine hwd.mono ?_
    rintro e w4 ⟨a4, rfl, ha4, hb4⟩
    have hfin := hB3.trans (hb4.mono hB3.size)
    go_wp2
    go_ret2
    obtain ⟨A4, c4, zs4, rfl, hx⟩ := ha4
    exact ⟨_, _, _, rfl, ⟨_, _, zs4, rfl, hx⟩, hfin⟩
  · have z2 : (0 : Int) < (n2 : Int) := by omega
    have hV0 : V = 2 + cmpV ((2 * (P % Q) : Nat) : Int) ((Q : Nat) : Int) := by rw [hR.out, if_neg h0]
    have hcb : -1 ≤ cmpV ((2 * (P % Q) : Nat) : Int) ((Q : Nat) : Int) ∧ cmpV ((2 * (P % Q) : Nat) : Int) ((Q : Nat) : Int) ≤ 1 := by unfold cmpV; split <;> (try split) <;> omega
    have hps := plus_any (E + 1) _ hL hL (by omega) (by omega) (by
      have h9 := IsH.lt hL
      rw [Nat.pow_succ]
      omega)
    rw [show P % Q + P % Q = 2 * (P % Q) by omega] at hps
    clear hl2 hR
    go_wp2_with fail
    refine hps.mono ?_
    rintro e w4 ⟨sv, rfl, hs4, hb4, -⟩
    have hB4 := hB3.trans (hb4.mono hB3.size)
    have hcm := rcmp_any _ hs4 (IsH.below hq3 hb4) (by omega) (by omega)
    have hwd := (words_any _ (IsH.below hM hb4) (by omega)).mono fun x w' h => tellsW_t h hK.out
    generalize cmpV ((2 * (P % Q) : Nat) : Int) ((Q : Nat) : Int) = cc at *
    subst hV0
    clear hps hb4 hq3 hL
    go_wp2_with fail
    refine hcm.mono ?_
    rintro e w5 ⟨rfl, rfl⟩
    go_wp2_with fail
    refine hwd.mono ?_
    rintro e w6 ⟨a6, rfl, ha6, hb6⟩
    have hfin := hB4.trans (hb6.mono hB4.size)
    go_wp2
    go_ret2
    obtain ⟨A4, c4, zs4, rfl, hx⟩ := ha6
    exact ⟨_, _, _, rfl, ⟨_, _, zs4, rfl, hx⟩, hfin⟩
end Go.Proofs.YtncfbleeidjflaaGreatDoor
