/- Rounding: Round, walked: the pattern of a number. Conditions: the variables that values read. -/
/- Rounding: Round, walked: the pattern of a number. Conditions: the variables that values read. -/
/- Parse: what is wrong is thrown; words, walked. Conditions: none. -/
import Derived.Test.YtdlkfnkmdlcekaaGreatDoorFo28
namespace Go.Proofs.YtdlkfnkmdlcekaaGreatDoor
open Go.RowKit Go.Cal
theorem large_cases {id : Int} (h1 : 1 ≤ id) (h2 : id < 15) (mode : Int) (neg : Bool) :
    ((mode == 1) = true ∧ largeV id mode neg = patV id neg (mostV id neg)) ∨ ((mode == 1) = false ∧ (fK id == 1) = true ∧ largeV id mode neg = patV id neg (mostV id neg)) ∨
    ((mode == 1) = false ∧ (fK id == 1) = false ∧ (bits BinOp.or IntKind.u64 (fI id) (fN id) == 0) = true ∧ largeV id mode neg = patV id neg (mostV id neg)) ∨
    ((mode == 1) = false ∧ (fK id == 1) = false ∧ (bits BinOp.or IntKind.u64 (fI id) (fN id) == 0) = false ∧ (fI id == 0) = true ∧ largeV id mode neg = fN id) ∨
    ((mode == 1) = false ∧ (fK id == 1) = false ∧ (bits BinOp.or IntKind.u64 (fI id) (fN id) == 0) = false ∧ (fI id == 0) = false ∧ neg = false ∧ largeV id mode neg = fI id) ∨
    ((mode == 1) = false ∧ (fK id == 1) = false ∧ (bits BinOp.or IntKind.u64 (fI id) (fN id) == 0) = false ∧ (fI id == 0) = false ∧ neg = true ∧ fK id ≠ 4 ∧ fI id < 2 ^ ((fW id).toNat - 1) ∧ largeV id mode neg = fI id + 2 ^ ((fW id).toNat - 1)) := by
  by_cases hm : mode = 1
  · left
    refine ⟨by simp [hm], ?_⟩
    unfold largeV
    rw [if_pos (.inl hm)]
  · right
    have hm' : (mode == 1) = false := by simp [hm]
    simp only [hm', true_and]
    have hl : largeV id mode neg = largeV id 2 neg := by
      unfold largeV
      simp only [hm, false_or, show ¬ ((2 : Int) = 1) by decide]
    rw [hl]
    clear hl hm hm'
    rcases id_cases h1 h2 with rfl | rfl | rfl | rfl | rfl | rfl | rfl | rfl | rfl | rfl | rfl | rfl | rfl | rfl <;> cases neg <;> decide +kernel
set_option maxRecDepth 100000 in
set_option maxHeartbeats 1000000 in
theorem rlarge_any (id mode : Int) (neg : Bool) (he : mostE id neg = 0) (w : World) (hW : VaW w) :
    Calls Tryz.prog 59 #[.agg #[.int .i64 (fK id), .int .i64 (fW id), .int .i64 (fM id), .int .i64 (fB id), .int .u64 (fT id), .int .u64 (fI id), .int .u64 (fN id)], .int .i64 id, .int .i64 mode, .bool neg] w fun e w' => e = .returned (.int .u64 (largeV id mode neg)) ∧ Below w.heap.size w w' := by
  obtain ⟨h1, h2, h4⟩ := mostE_zero he
  obtain ⟨hmf, hmR⟩ := most_fit he
  obtain ⟨w1, w2, -⟩ := fo_wide h1 h2
  have hbn := mostV_bnd id neg
  have hmo := fun w hW => vmost_any id neg w hW
  rw [he, hmR] at hmo
  replace hmo := Lib.hid hmo
  have hpt := Lib.hid (fun w hW => vpat_any id neg (mostV id neg) he (by omega) (Int.le_refl _) w hW)
  have hL := (((LiveP.start w).go ((Below.refl w.heap.size w).alloc (Nat.le_refl _) (.cells #[.int .i64 (fK id), .int .i64 (fW id), .int .i64 (fM id), .int .i64 (fB id), .int .u64 (fT id), .int .u64 (fI id), .int .u64 (fN id)] 39))).put (pBlk_st _ _ _) (pBlk_made w #[.int .i64 (fK id), .int .i64 (fW id), .int .i64 (fM id), .int .i64 (fB id), .int .u64 (fT id), .int .u64 (fI id), .int .u64 (fN id)] 39))
  have hlc := large_cases h1 h2 mode neg
  have hft := ft_bounds id
  have hsg := Lib.hid fun (hk : fK id ≠ 4) w => fo_sign (fK id) (fW id) (fM id) (fB id) (fT id) (fI id) (fN id) w (by omega) (by omega) hk
  have hor := Lib.hid fun (hi : fI id < 2 ^ ((fW id).toNat - 1)) => pat_or (fI id) ((fW id).toNat - 1) (by omega) (by omega) hi
  clear h1 h2 h4 he hmf hmR hbn w1 w2 hft
  rcases hlc with ⟨a1, hv⟩ | ⟨a1, a2, hv⟩ | ⟨a1, a2, a3, hv⟩ | ⟨a1, a2, a3, a4, hv⟩ | ⟨a1, a2, a3, a4, rfl, hv⟩ | ⟨a1, a2, a3, a4, rfl, a5, a6, hv⟩
  case inr.inr.inr.inr.inr =>
    rw [hv]
    clear hv
    have hsg' := Lib.hid (hsg.out a5)
    have hor' := Lib.hid (hor.out a6)
    clear hsg hor
    replace a5 := Lib.hid a5
    replace a6 := Lib.hid a6
    go_enter Tryz.func59, Tryz.ntmps59
    go_wp2_with fail
    refine (hmo.out _ (hW.below hL.below)).mono ?_
    rintro e u1 ⟨rfl, hb1⟩
    replace hL := hL.go hb1
    go_wp2_with fail
    refine (hpt.out _ (hW.below hL.below)).mono ?_
    rintro e u2 ⟨rfl, hb2⟩
    replace hL := hL.go hb2
    have hq := hL.get (P := pBlk w.heap.size #[.int .i64 (fK id), .int .i64 (fW id), .int .i64 (fM id), .int .i64 (fB id), .int .u64 (fT id), .int .u64 (fI id), .int .u64 (fN id)] 39) (by repeat (first | exact List.mem_cons_self | apply List.mem_cons_of_mem))
    have q0 := hq.cell 0 _ rfl
    have q1 := hq.cell 1 _ rfl
    have q2 := hq.cell 2 _ rfl
    have q3 := hq.cell 3 _ rfl
    have q4 := hq.cell 4 _ rfl
    have q5 := hq.cell 5 _ rfl
    have q6 := hq.cell 6 _ rfl
    have hzl : w.heap.size < u2.heap.size := by
      have := hq
      unfold pBlk at this
      exact (Array.getElem?_eq_some_iff.1 this).1
    go_wp2_with fail
    have k0 := fun (u : Later u2.heap.size u2) => u.cell w.heap.size 0 _ hzl q0
    have k1 := fun (u : Later u2.heap.size u2) => u.cell w.heap.size 1 _ hzl q1
    have k2 := fun (u : Later u2.heap.size u2) => u.cell w.heap.size 2 _ hzl q2
    have k3 := fun (u : Later u2.heap.size u2) => u.cell w.heap.size 3 _ hzl q3
    have k4 := fun (u : Later u2.heap.size u2) => u.cell w.heap.size 4 _ hzl q4
    have k5 := fun (u : Later u2.heap.size u2) => u.cell w.heap.size 5 _ hzl q5
    have k6 := fun (u : Later u2.heap.size u2) => u.cell w.heap.size 6 _ hzl q6
    refine wp_region_later (B := u2.heap.size) (by kernel_rfl) (by kernel_rfl) (Below.refl _ _) ?_
    repeat (go_big_quiet_step ((go_at_call 22; exact Calls.later_of (Nat.le_refl _) (hsg'.out _))))
    refine wpQuiet_nil ?_
    intro w2 hb3
    go_wp2
    rw [hor'.out]
    go_ret
    exact ⟨rfl, hL.below.trans (hb3.mono hL.below.size)⟩
  all_goals
    rw [hv]
    clear hv
    go_enter Tryz.func59, Tryz.ntmps59
    go_wp2_with fail
    refine (hmo.out _ (hW.below hL.below)).mono ?_
    rintro e u1 ⟨rfl, hb1⟩
    replace hL := hL.go hb1
    go_wp2_with fail
    refine (hpt.out _ (hW.below hL.below)).mono ?_
    rintro e u2 ⟨rfl, hb2⟩
    replace hL := hL.go hb2
    have hq := hL.get (P := pBlk w.heap.size #[.int .i64 (fK id), .int .i64 (fW id), .int .i64 (fM id), .int .i64 (fB id), .int .u64 (fT id), .int .u64 (fI id), .int .u64 (fN id)] 39) (by repeat (first | exact List.mem_cons_self | apply List.mem_cons_of_mem))
    have q0 := hq.cell 0 _ rfl
    have q1 := hq.cell 1 _ rfl
    have q2 := hq.cell 2 _ rfl
    have q3 := hq.cell 3 _ rfl
    have q4 := hq.cell 4 _ rfl
    have q5 := hq.cell 5 _ rfl
    have q6 := hq.cell 6 _ rfl
    go_wp2
    go_ret
    exact ⟨rfl, hL.below⟩
end Go.Proofs.YtdlkfnkmdlcekaaGreatDoor
namespace Go.Proofs.YtdlkfnkmdlcekaaGreatDoor
open Go.RowKit Go.Cal
/-- What Round tells. -/
def roundR (id mode : Int) (neg : Bool) (P Q : Nat) : Int := if roundE id mode = 0 then roundP id mode neg P Q else 0
theorem round_cases (id mode : Int) (neg : Bool) (P Q N : Nat) (hP : P = 0 ↔ N = 0) :
    ((id < 1 ∨ 15 ≤ id) ∧ roundE id mode = 3 ∧ roundR id mode neg P Q = 0) ∨ (1 ≤ id ∧ id < 15 ∧
      (((mode != 1) = true ∧ (mode != 2) = true ∧ roundE id mode = 1 ∧ roundR id mode neg P Q = 0) ∨
       ((((mode != 1) = false) ∨ ((mode != 1) = true ∧ (mode != 2) = false)) ∧ roundE id mode = 0 ∧
         (((fK id == 4) = true ∧ neg = true ∧ roundR id mode neg P Q = fN id) ∨ ((fK id == 4) = true ∧ neg = false ∧ decide (N = 0) = true ∧ roundR id mode neg P Q = fN id) ∨
          ((((fK id == 4) = true ∧ neg = false ∧ decide (N = 0) = false) ∨ (fK id == 4) = false) ∧ mostE id neg = 0 ∧
            ((overB id neg P Q = true ∧ roundR id mode neg P Q = largeV id mode neg) ∨ (overB id neg P Q = false ∧ nearV id neg P Q = (nearK id neg P Q : Nat) ∧ roundR id mode neg P Q = patV id neg (nearK id neg P Q : Nat)))))))) := by
  by_cases hid : id < 1 ∨ 15 ≤ id
  · have hE : roundE id mode = 3 := by unfold roundE; rw [if_pos hid]
    exact .inl ⟨hid, hE, by unfold roundR; rw [hE]; rfl⟩
  · right
    refine ⟨by omega, by omega, ?_⟩
    by_cases hm : mode ≠ 1 ∧ mode ≠ 2
    · left
      have hE : roundE id mode = 1 := by unfold roundE; rw [if_neg hid, if_pos hm]
      exact ⟨by simp [hm.1], by simp [hm.2], hE, by unfold roundR; rw [hE]; rfl⟩
    · right
      have hE : roundE id mode = 0 := by unfold roundE; rw [if_neg hid, if_neg hm]
      have hR : roundR id mode neg P Q = roundP id mode neg P Q := by unfold roundR; rw [if_pos hE]
      refine ⟨?_, hE, ?_⟩
      · by_cases h1 : mode = 1
        · left; simp [h1]
        · right
          refine ⟨by simp [h1], ?_⟩
          have : mode = 2 := Classical.byContradiction fun h => hm ⟨h1, h⟩
          simp [this]
      · rw [hR]
        unfold roundP
        by_cases h4 : fK id = 4 ∧ (neg = true ∨ P = 0)
        · rw [if_pos h4]
          have h4' : (fK id == 4) = true := by simp [h4.1]
          cases neg with
          | true => exact .inl ⟨h4', rfl, rfl⟩
          | false => exact .inr (.inl ⟨h4', rfl, decide_eq_true (hP.1 (by rcases h4.2 with h | h; exact absurd h (by decide); exact h)), rfl⟩)
        · rw [if_neg h4]
          right; right
          refine ⟨?_, ?_, ?_⟩
          · by_cases h : fK id = 4
            · left
              refine ⟨by simp [h], ?_, decide_eq_false fun h0 => h4 ⟨h, .inr (hP.2 h0)⟩⟩
              cases neg with
              | true => exact absurd ⟨h, .inl rfl⟩ h4
              | false => rfl
            · right; simp [h]
          · unfold mostE
            rw [if_neg hid, if_neg (fun h => h4 ⟨h.2, .inl h.1⟩)]
          · cases ho : overB id neg P Q with
            | true => left; exact ⟨rfl, by rw [if_pos rfl]⟩
            | false =>
              right
              refine ⟨rfl, ?_, by rw [if_neg (by decide)]⟩
              unfold nearV
              rw [ho, if_neg (by decide)]
theorem expP_zero (N : Nat) (t f : Int) : exP N t f = 0 ↔ N = 0 := by
  constructor
  · intro h0
    rcases Nat.eq_zero_or_pos N with h3 | h3
    · exact h3
    · have := exP_pos t f h3; omega
  · intro h0; rw [h0]; exact exP_zero t f
set_option maxRecDepth 100000 in
set_option maxHeartbeats 4000000 in
theorem rround_any (id mode : Int) (neg : Bool) {A : Option Addr} {n c N : Nat} (t f : Int) {w : World} (hW : VaW w) (h : IsT w (.slice A n c) 128 N) (ht : -5000 ≤ t ∧ t ≤ 5000) (hf : -5000 ≤ f ∧ f ≤ 5000) :
    Calls Tryz.prog 29 #[.int .i64 id, .int .i64 mode, .agg #[.bool neg, .slice A n c, .int .i64 t, .int .i64 f]] w fun e w' => e = .returned (.tuple #[.int .u64 (roundR id mode neg (exP N t f) (exQ t f)), .int .i64 (roundE id mode)]) ∧ Below w.heap.size w w' := by
  have hcs := round_cases id mode neg (exP N t f) (exQ t f) N (expP_zero N t f)
  have hnr := Lib.hid (fun (he : mostE id neg = 0) (W : World) (hW : VaW W) (hv : IsT W (.slice A n c) 128 N) => nearest_any id neg he t f hW hv ht hf)
  have hlg := Lib.hid (fun (he : mostE id neg = 0) (W : World) (hW : VaW W) => rlarge_any id mode neg he W hW)
  have hpt := Lib.hid (fun (he : mostE id neg = 0) (W : World) (hW : VaW W) => vpat_any id neg (nearK id neg (exP N t f) (exQ t f) : Nat) he (by omega) (nearK_le id neg _ _) W hW)
  have hrt := Lib.hid (fun (W : World) (hv : IsT W (.slice A n c) 128 N) => xright_yes neg t f hv ht hf)
  have hzr := Lib.hid (fun (W : World) (hv : IsT W (.slice A n c) 128 N) => rzero_any neg t f hv)
  generalize exP N t f = P at hcs hnr hpt ⊢
  generalize exQ t f = Q at hcs hnr hpt ⊢
  have hb0 := (Below.refl w.heap.size w).alloc (Nat.le_refl _) (.cells #[.bool neg, .slice A n c, .int .i64 t, .int .i64 f] 56)
  have hL := (((LiveP.start w).go hb0).put (pBlk_st _ _ _) (pBlk_made w #[.bool neg, .slice A n c, .int .i64 t, .int .i64 f] 56)).put (pT_st (.slice A n c) 128 N) (h.below hb0)
  clear h hb0
  rcases hcs with ⟨hid, hE, hR⟩ | ⟨h1, h2, hcs⟩
  · rw [hE, hR]
    have hfn := Lib.hid (fun w => fo_none id w hid)
    clear hid hE hR hnr hlg hpt hrt hzr
    go_enter Tryz.func29, Tryz.ntmps29
    go_wp2_with fail
    refine (hfn.out _).mono ?_
    rintro e u1 ⟨rfl, hb1⟩
    go_wp2
    go_ret2
    exact ⟨rfl, ((hL.go hb1).go ((Below.refl _ _).alloc (Nat.le_refl _) _)).below⟩
  · have hfo := Lib.hid (fun (W : World) (hW : VaW W) => fo_of id W hW.frm h1 h2)
    rcases hcs with ⟨m1, m2, hE, hR⟩ | ⟨hmd, hE, hcs⟩
    · rw [hE, hR]
      clear hE hR hnr hlg hpt hzr
      go_enter Tryz.func29, Tryz.ntmps29
      go_wp2_with fail
      refine (hfo.out _ (hW.below hL.below)).mono ?_
      rintro e u1 ⟨rfl, hb1⟩
      go_wp2
      go_ret2
      exact ⟨rfl, ((hL.go hb1).go ((Below.refl _ _).alloc (Nat.le_refl _) _)).below⟩
    · rw [hE]
      clear hE
      rcases hcs with ⟨k4, rfl, hR⟩ | ⟨k4, rfl, hz, hR⟩ | ⟨hk, hmo, hcs⟩
      · rw [hR]
        clear hR hnr hlg hpt hzr
        rcases hmd with m1 | ⟨m1, m2⟩
        all_goals
          go_enter Tryz.func29, Tryz.ntmps29
          go_wp2_with fail
          refine (hfo.out _ (hW.below hL.below)).mono ?_
          rintro e u1 ⟨rfl, hb1⟩
          replace hL := (hL.go hb1).go ((Below.refl _ _).alloc (Nat.le_refl _) (.cells #[.int .i64 (fK id), .int .i64 (fW id), .int .i64 (fM id), .int .i64 (fB id), .int .u64 (fT id), .int .u64 (fI id), .int .u64 (fN id)] 39))
          obtain ⟨r0, r1, r2, r3⟩ := cells4 (hL.get (P := pBlk w.heap.size #[.bool true, .slice A n c, .int .i64 t, .int .i64 f] 56) (by repeat (first | exact List.mem_cons_self | apply List.mem_cons_of_mem)))
          go_wp2_with fail
          refine (hrt.out _ (hL.get (P := pT (.slice A n c) 128 N) (by repeat (first | exact List.mem_cons_self | apply List.mem_cons_of_mem)))).mono ?_
          rintro e u2 ⟨rfl, hb2⟩
          have hq := pBlk_st _ _ _ _ _ (pBlk_made u1 #[.int .i64 (fK id), .int .i64 (fW id), .int .i64 (fM id), .int .i64 (fB id), .int .u64 (fT id), .int .u64 (fI id), .int .u64 (fN id)] 39) hb2
          replace hL := hL.go hb2
          clear r0 r1 r2 r3
          obtain ⟨r0, r1, r2, r3⟩ := cells4 (hL.get (P := pBlk w.heap.size #[.bool true, .slice A n c, .int .i64 t, .int .i64 f] 56) (by repeat (first | exact List.mem_cons_self | apply List.mem_cons_of_mem)))
          have q0 := hq.cell 0 _ rfl
          have q6 := hq.cell 6 _ rfl
          go_wp2
          go_ret2
          exact ⟨rfl, hL.below⟩
      · rw [hR]
        have hz' := Lib.hid hz
        clear hR hnr hlg hpt hz
        rcases hmd with m1 | ⟨m1, m2⟩
        all_goals
          skip
          go_enter Tryz.func29, Tryz.ntmps29
          go_wp2_with fail
          refine (hfo.out _ (hW.below hL.below)).mono ?_
          rintro e u1 ⟨rfl, hb1⟩
          replace hL := (hL.go hb1).go ((Below.refl _ _).alloc (Nat.le_refl _) (.cells #[.int .i64 (fK id), .int .i64 (fW id), .int .i64 (fM id), .int .i64 (fB id), .int .u64 (fT id), .int .u64 (fI id), .int .u64 (fN id)] 39))
          obtain ⟨r0, r1, r2, r3⟩ := cells4 (hL.get (P := pBlk w.heap.size #[.bool false, .slice A n c, .int .i64 t, .int .i64 f] 56) (by repeat (first | exact List.mem_cons_self | apply List.mem_cons_of_mem)))
          go_wp2_with fail
          refine (hrt.out _ (hL.get (P := pT (.slice A n c) 128 N) (by repeat (first | exact List.mem_cons_self | apply List.mem_cons_of_mem)))).mono ?_
          rintro e u2 ⟨rfl, hb2⟩
          have hq := pBlk_st _ _ _ _ _ (pBlk_made u1 #[.int .i64 (fK id), .int .i64 (fW id), .int .i64 (fM id), .int .i64 (fB id), .int .u64 (fT id), .int .u64 (fI id), .int .u64 (fN id)] 39) hb2
          replace hL := hL.go hb2
          clear r0 r1 r2 r3
          obtain ⟨r0, r1, r2, r3⟩ := cells4 (hL.get (P := pBlk w.heap.size #[.bool false, .slice A n c, .int .i64 t, .int .i64 f] 56) (by repeat (first | exact List.mem_cons_self | apply List.mem_cons_of_mem)))
          have q0 := hq.cell 0 _ rfl
          have q6 := hq.cell 6 _ rfl
          go_wp2_with fail
          refine (hzr.out _ (hL.get (P := pT (.slice A n c) 128 N) (by repeat (first | exact List.mem_cons_self | apply List.mem_cons_of_mem)))).mono ?_
          rintro e u3 ⟨rfl, hb3⟩
          rw [hz'.out]
          have hq3 := pBlk_st _ _ _ _ _ hq hb3
          replace hL := hL.go hb3
          clear r0 r1 r2 r3 q0 q6 hq
          have hq := hq3
          obtain ⟨r0, r1, r2, r3⟩ := cells4 (hL.get (P := pBlk w.heap.size #[.bool false, .slice A n c, .int .i64 t, .int .i64 f] 56) (by repeat (first | exact List.mem_cons_self | apply List.mem_cons_of_mem)))
          have q0 := hq.cell 0 _ rfl
          have q6 := hq.cell 6 _ rfl
          go_wp2
          go_ret2
          exact ⟨rfl, hL.below⟩
      · have hnr' := hnr.out hmo
        have hlg' := hlg.out hmo
        have hpt' := hpt.out hmo
        clear hnr hlg hpt hmo
        rcases hcs with ⟨ho, hR⟩ | ⟨ho, hn, hR⟩
        · rw [hR]
          rw [ho] at hnr'
          generalize nearV id neg P Q = nv at hnr'
          have hend := Lib.hid hlg'
          replace hnr' := Lib.hid hnr'
          clear hR ho hlg' hpt'
          rcases hk with ⟨k4, rfl, hz⟩ | k4
          · have hz' := Lib.hid hz
            clear hz
            rcases hmd with m1 | ⟨m1, m2⟩
            all_goals
              skip
              go_enter Tryz.func29, Tryz.ntmps29
              go_wp2_with fail
              refine (hfo.out _ (hW.below hL.below)).mono ?_
              rintro e u1 ⟨rfl, hb1⟩
              replace hL := (hL.go hb1).go ((Below.refl _ _).alloc (Nat.le_refl _) (.cells #[.int .i64 (fK id), .int .i64 (fW id), .int .i64 (fM id), .int .i64 (fB id), .int .u64 (fT id), .int .u64 (fI id), .int .u64 (fN id)] 39))
              obtain ⟨r0, r1, r2, r3⟩ := cells4 (hL.get (P := pBlk w.heap.size #[.bool false, .slice A n c, .int .i64 t, .int .i64 f] 56) (by repeat (first | exact List.mem_cons_self | apply List.mem_cons_of_mem)))
              go_wp2_with fail
              refine (hrt.out _ (hL.get (P := pT (.slice A n c) 128 N) (by repeat (first | exact List.mem_cons_self | apply List.mem_cons_of_mem)))).mono ?_
              rintro e u2 ⟨rfl, hb2⟩
              have hq := pBlk_st _ _ _ _ _ (pBlk_made u1 #[.int .i64 (fK id), .int .i64 (fW id), .int .i64 (fM id), .int .i64 (fB id), .int .u64 (fT id), .int .u64 (fI id), .int .u64 (fN id)] 39) hb2
              replace hL := hL.go hb2
              clear r0 r1 r2 r3
              obtain ⟨r0, r1, r2, r3⟩ := cells4 (hL.get (P := pBlk w.heap.size #[.bool false, .slice A n c, .int .i64 t, .int .i64 f] 56) (by repeat (first | exact List.mem_cons_self | apply List.mem_cons_of_mem)))
              have q0 := hq.cell 0 _ rfl
              have q6 := hq.cell 6 _ rfl
              go_wp2_with fail
              refine (hzr.out _ (hL.get (P := pT (.slice A n c) 128 N) (by repeat (first | exact List.mem_cons_self | apply List.mem_cons_of_mem)))).mono ?_
              rintro e u3 ⟨rfl, hb3⟩
              rw [hz'.out]
              have hq3 := pBlk_st _ _ _ _ _ hq hb3
              replace hL := hL.go hb3
              clear r0 r1 r2 r3 q0 q6 hq
              have hq := hq3
              obtain ⟨r0, r1, r2, r3⟩ := cells4 (hL.get (P := pBlk w.heap.size #[.bool false, .slice A n c, .int .i64 t, .int .i64 f] 56) (by repeat (first | exact List.mem_cons_self | apply List.mem_cons_of_mem)))
              have q0 := hq.cell 0 _ rfl
              have q6 := hq.cell 6 _ rfl
              go_wp2_with fail
              refine (hnr'.out _ (hW.below hL.below) (hL.get (P := pT (.slice A n c) 128 N) (by repeat (first | exact List.mem_cons_self | apply List.mem_cons_of_mem)))).mono ?_
              rintro e u4 ⟨rfl, hb4⟩
              replace hq := pBlk_st _ _ _ _ _ hq hb4
              replace hL := hL.go hb4
              clear r0 r1 r2 r3 q0 q6
              obtain ⟨r0, r1, r2, r3⟩ := cells4 (hL.get (P := pBlk w.heap.size #[.bool false, .slice A n c, .int .i64 t, .int .i64 f] 56) (by repeat (first | exact List.mem_cons_self | apply List.mem_cons_of_mem)))
              have q0 := hq.cell 0 _ rfl
              have q1 := hq.cell 1 _ rfl
              have q2 := hq.cell 2 _ rfl
              have q3 := hq.cell 3 _ rfl
              have q4 := hq.cell 4 _ rfl
              have q5 := hq.cell 5 _ rfl
              have q6 := hq.cell 6 _ rfl
              go_wp2_with fail
              refine (hend.out _ (hW.below hL.below)).mono ?_
              rintro e u5 ⟨rfl, hb5⟩
              go_wp2
              go_ret2
              exact ⟨rfl, (hL.go hb5).below⟩
          · rcases hmd with m1 | ⟨m1, m2⟩
            all_goals
              skip
              go_enter Tryz.func29, Tryz.ntmps29
              go_wp2_with fail
              refine (hfo.out _ (hW.below hL.below)).mono ?_
              rintro e u1 ⟨rfl, hb1⟩
              replace hL := (hL.go hb1).go ((Below.refl _ _).alloc (Nat.le_refl _) (.cells #[.int .i64 (fK id), .int .i64 (fW id), .int .i64 (fM id), .int .i64 (fB id), .int .u64 (fT id), .int .u64 (fI id), .int .u64 (fN id)] 39))
              obtain ⟨r0, r1, r2, r3⟩ := cells4 (hL.get (P := pBlk w.heap.size #[.bool neg, .slice A n c, .int .i64 t, .int .i64 f] 56) (by repeat (first | exact List.mem_cons_self | apply List.mem_cons_of_mem)))
              go_wp2_with fail
              refine (hrt.out _ (hL.get (P := pT (.slice A n c) 128 N) (by repeat (first | exact List.mem_cons_self | apply List.mem_cons_of_mem)))).mono ?_
              rintro e u2 ⟨rfl, hb2⟩
              have hq := pBlk_st _ _ _ _ _ (pBlk_made u1 #[.int .i64 (fK id), .int .i64 (fW id), .int .i64 (fM id), .int .i64 (fB id), .int .u64 (fT id), .int .u64 (fI id), .int .u64 (fN id)] 39) hb2
              replace hL := hL.go hb2
              clear r0 r1 r2 r3
              obtain ⟨r0, r1, r2, r3⟩ := cells4 (hL.get (P := pBlk w.heap.size #[.bool neg, .slice A n c, .int .i64 t, .int .i64 f] 56) (by repeat (first | exact List.mem_cons_self | apply List.mem_cons_of_mem)))
              have q0 := hq.cell 0 _ rfl
              have q6 := hq.cell 6 _ rfl
              go_wp2_with fail
              refine (hnr'.out _ (hW.below hL.below) (hL.get (P := pT (.slice A n c) 128 N) (by repeat (first | exact List.mem_cons_self | apply List.mem_cons_of_mem)))).mono ?_
              rintro e u4 ⟨rfl, hb4⟩
              replace hq := pBlk_st _ _ _ _ _ hq hb4
              replace hL := hL.go hb4
              clear r0 r1 r2 r3 q0 q6
              obtain ⟨r0, r1, r2, r3⟩ := cells4 (hL.get (P := pBlk w.heap.size #[.bool neg, .slice A n c, .int .i64 t, .int .i64 f] 56) (by repeat (first | exact List.mem_cons_self | apply List.mem_cons_of_mem)))
              have q0 := hq.cell 0 _ rfl
              have q1 := hq.cell 1 _ rfl
              have q2 := hq.cell 2 _ rfl
              have q3 := hq.cell 3 _ rfl
              have q4 := hq.cell 4 _ rfl
              have q5 := hq.cell 5 _ rfl
              have q6 := hq.cell 6 _ rfl
              go_wp2_with fail
              refine (hend.out _ (hW.below hL.below)).mono ?_
              rintro e u5 ⟨rfl, hb5⟩
              go_wp2
              go_ret2
              exact ⟨rfl, (hL.go hb5).below⟩
        · rw [hR]
          rw [ho, hn] at hnr'
          generalize ((nearK id neg P Q : Nat) : Int) = nv at hnr' hpt' ⊢
          have hend := Lib.hid hpt'
          replace hnr' := Lib.hid hnr'
          clear hR ho hn hlg' hpt'
          rcases hk with ⟨k4, rfl, hz⟩ | k4
          · have hz' := Lib.hid hz
            clear hz
            rcases hmd with m1 | ⟨m1, m2⟩
            all_goals
              skip
              go_enter Tryz.func29, Tryz.ntmps29
              go_wp2_with fail
              refine (hfo.out _ (hW.below hL.below)).mono ?_
              rintro e u1 ⟨rfl, hb1⟩
              replace hL := (hL.go hb1).go ((Below.refl _ _).alloc (Nat.le_refl _) (.cells #[.int .i64 (fK id), .int .i64 (fW id), .int .i64 (fM id), .int .i64 (fB id), .int .u64 (fT id), .int .u64 (fI id), .int .u64 (fN id)] 39))
              obtain ⟨r0, r1, r2, r3⟩ := cells4 (hL.get (P := pBlk w.heap.size #[.bool false, .slice A n c, .int .i64 t, .int .i64 f] 56) (by repeat (first | exact List.mem_cons_self | apply List.mem_cons_of_mem)))
              go_wp2_with fail
              refine (hrt.out _ (hL.get (P := pT (.slice A n c) 128 N) (by repeat (first | exact List.mem_cons_self | apply List.mem_cons_of_mem)))).mono ?_
              rintro e u2 ⟨rfl, hb2⟩
              have hq := pBlk_st _ _ _ _ _ (pBlk_made u1 #[.int .i64 (fK id), .int .i64 (fW id), .int .i64 (fM id), .int .i64 (fB id), .int .u64 (fT id), .int .u64 (fI id), .int .u64 (fN id)] 39) hb2
              replace hL := hL.go hb2
              clear r0 r1 r2 r3
              obtain ⟨r0, r1, r2, r3⟩ := cells4 (hL.get (P := pBlk w.heap.size #[.bool false, .slice A n c, .int .i64 t, .int .i64 f] 56) (by repeat (first | exact List.mem_cons_self | apply List.mem_cons_of_mem)))
              have q0 := hq.cell 0 _ rfl
              have q6 := hq.cell 6 _ rfl
              go_wp2_with fail
              refine (hzr.out _ (hL.get (P := pT (.slice A n c) 128 N) (by repeat (first | exact List.mem_cons_self | apply List.mem_cons_of_mem)))).mono ?_
              rintro e u3 ⟨rfl, hb3⟩
              rw [hz'.out]
              have hq3 := pBlk_st _ _ _ _ _ hq hb3
              replace hL := hL.go hb3
              clear r0 r1 r2 r3 q0 q6 hq
              have hq := hq3
              obtain ⟨r0, r1, r2, r3⟩ := cells4 (hL.get (P := pBlk w.heap.size #[.bool false, .slice A n c, .int .i64 t, .int .i64 f] 56) (by repeat (first | exact List.mem_cons_self | apply List.mem_cons_of_mem)))
              have q0 := hq.cell 0 _ rfl
              have q6 := hq.cell 6 _ rfl
              go_wp2_with fail
              refine (hnr'.out _ (hW.below hL.below) (hL.get (P := pT (.slice A n c) 128 N) (by repeat (first | exact List.mem_cons_self | apply List.mem_cons_of_mem)))).mono ?_
              rintro e u4 ⟨rfl, hb4⟩
              replace hq := pBlk_st _ _ _ _ _ hq hb4
              replace hL := hL.go hb4
              clear r0 r1 r2 r3 q0 q6
              obtain ⟨r0, r1, r2, r3⟩ := cells4 (hL.get (P := pBlk w.heap.size #[.bool false, .slice A n c, .int .i64 t, .int .i64 f] 56) (by repeat (first | exact List.mem_cons_self | apply List.mem_cons_of_mem)))
              have q0 := hq.cell 0 _ rfl
              have q1 := hq.cell 1 _ rfl
              have q2 := hq.cell 2 _ rfl
              have q3 := hq.cell 3 _ rfl
              have q4 := hq.cell 4 _ rfl
              have q5 := hq.cell 5 _ rfl
              have q6 := hq.cell 6 _ rfl
              go_wp2_with fail
              refine (hend.out _ (hW.below hL.below)).mono ?_
              rintro e u5 ⟨rfl, hb5⟩
              go_wp2
              go_ret2
              exact ⟨rfl, (hL.go hb5).below⟩
          · rcases hmd with m1 | ⟨m1, m2⟩
            all_goals
              skip
              go_enter Tryz.func29, Tryz.ntmps29
              go_wp2_with fail
              refine (hfo.out _ (hW.below hL.below)).mono ?_
              rintro e u1 ⟨rfl, hb1⟩
              replace hL := (hL.go hb1).go ((Below.refl _ _).alloc (Nat.le_refl _) (.cells #[.int .i64 (fK id), .int .i64 (fW id), .int .i64 (fM id), .int .i64 (fB id), .int .u64 (fT id), .int .u64 (fI id), .int .u64 (fN id)] 39))
              obtain ⟨r0, r1, r2, r3⟩ := cells4 (hL.get (P := pBlk w.heap.size #[.bool neg, .slice A n c, .int .i64 t, .int .i64 f] 56) (by repeat (first | exact List.mem_cons_self | apply List.mem_cons_of_mem)))
              go_wp2_with fail
              refine (hrt.out _ (hL.get (P := pT (.slice A n c) 128 N) (by repeat (first | exact List.mem_cons_self | apply List.mem_cons_of_mem)))).mono ?_
              rintro e u2 ⟨rfl, hb2⟩
              have hq := pBlk_st _ _ _ _ _ (pBlk_made u1 #[.int .i64 (fK id), .int .i64 (fW id), .int .i64 (fM id), .int .i64 (fB id), .int .u64 (fT id), .int .u64 (fI id), .int .u64 (fN id)] 39) hb2
              replace hL := hL.go hb2
              clear r0 r1 r2 r3
              obtain ⟨r0, r1, r2, r3⟩ := cells4 (hL.get (P := pBlk w.heap.size #[.bool neg, .slice A n c, .int .i64 t, .int .i64 f] 56) (by repeat (first | exact List.mem_cons_self | apply List.mem_cons_of_mem)))
              have q0 := hq.cell 0 _ rfl
              have q6 := hq.cell 6 _ rfl
              go_wp2_with fail
              refine (hnr'.out _ (hW.below hL.below) (hL.get (P := pT (.slice A n c) 128 N) (by repeat (first | exact List.mem_cons_self | apply List.mem_cons_of_mem)))).mono ?_
              rintro e u4 ⟨rfl, hb4⟩
              replace hq := pBlk_st _ _ _ _ _ hq hb4
              replace hL := hL.go hb4
              clear r0 r1 r2 r3 q0 q6
              obtain ⟨r0, r1, r2, r3⟩ := cells4 (hL.get (P := pBlk w.heap.size #[.bool neg, .slice A n c, .int .i64 t, .int .i64 f] 56) (by repeat (first | exact List.mem_cons_self | apply List.mem_cons_of_mem)))
              have q0 := hq.cell 0 _ rfl
              have q1 := hq.cell 1 _ rfl
              have q2 := hq.cell 2 _ rfl
              have q3 := hq.cell 3 _ rfl
              have q4 := hq.cell 4 _ rfl
              have q5 := hq.cell 5 _ rfl
              have q6 := hq.cell 6 _ rfl
              go_wp2_with fail
              refine (hend.out _ (hW.below hL.below)).mono ?_
              rintro e u5 ⟨rfl, hb5⟩
              go_wp2
              go_ret2
              exact ⟨rfl, (hL.go hb5).below⟩
end Go.Proofs.YtdlkfnkmdlcekaaGreatDoor
namespace Go.Proofs.YtdlkfnkmdlcekaaGreatDoor
open Go.RowKit Go.Cal
theorem qmust_yes (a : Int) (w : World) : Calls Tryz.prog 44 #[.int .i64 a, .int .i64 0] w fun e w' => e = .returned (.tuple #[]) ∧ w = w' := by
  go_enter Tryz.func44, Tryz.ntmps44
  go_wp2
  go_end0
  exact ⟨rfl, rfl⟩
theorem qmust_no (a b : Int) (hb : b ≠ 0) (w : World) : Calls Tryz.prog 44 #[.int .i64 a, .int .i64 b] w fun e w' => e = .panicked [{ v := .iface 90 (.agg #[.int .i64 a, .int .i64 b]), recovered := false }] ∧ w = w' := by
  have hb' : (b != 0) = true := by simp [hb]
  go_enter Tryz.func44, Tryz.ntmps44
  go_wp2
  exact ⟨rfl, rfl, rfl⟩
theorem qhas_yes (a : Int) (w : World) : Calls Tryz.prog 82 #[.bool true, .int .i64 a] w fun e w' => e = .returned (.tuple #[]) ∧ w = w' := by
  go_enter Tryz.func82, Tryz.ntmps82
  go_wp2
  go_end0
  exact ⟨rfl, rfl⟩
theorem qhas_no (a : Int) (w : World) : Calls Tryz.prog 82 #[.bool false, .int .i64 a] w fun e w' => e = .panicked [{ v := .iface 90 (.agg #[.int .i64 a, .int .i64 5]), recovered := false }] ∧ w = w' := by
  go_enter Tryz.func82, Tryz.ntmps82
  go_wp2_with fail
  refine (qmust_no a 5 (by decide) _).mono ?_
  rintro e w1 ⟨rfl, rfl⟩
  go_wp2
  exact ⟨rfl, rfl, rfl⟩
theorem fo_sgn (id : Int) (h1 : 1 ≤ id) (h2 : id < 15) (w : World) : Calls Tryz.prog 22 #[.agg #[.int .i64 (fK id), .int .i64 (fW id), .int .i64 (fM id), .int .i64 (fB id), .int .u64 (fT id), .int .u64 (fI id), .int .u64 (fN id)]] w fun e w' => e = .returned (.int .u64 (sgV id)) ∧ Below w.heap.size w w' := by
  obtain ⟨w1, w2, -⟩ := fo_wide h1 h2
  unfold sgV
  by_cases h4 : fK id = 4
  · rw [if_pos h4, h4]
    exact fo_nosign _ _ _ _ _ _ w
  · rw [if_neg h4]
    exact fo_sign _ _ _ _ _ _ _ w (by omega) (by omega) h4
/-- Is there a word in a form; its pattern. -/
def wordB (id kd : Int) (neg : Bool) : Bool := if kd = 2 then fI id != 0 else if kd = 3 then (fN id != 0) && !(fK id == 1) else (fK id == 1) && !neg
def wordP (id kd : Int) (neg : Bool) : Int := if kd = 2 then (if neg = true then fI id + 2 ^ ((fW id).toNat - 1) else fI id) else fN id
theorem word_or {id : Int} (h1 : 1 ≤ id) (h2 : id < 15) (neg : Bool) (h : (fI id != 0) = true) : bits BinOp.or IntKind.u64 (fI id) (if neg = true then sgV id else 0) = wordP id 2 neg := by
  rcases id_cases h1 h2 with rfl | rfl | rfl | rfl | rfl | rfl | rfl | rfl | rfl | rfl | rfl | rfl | rfl | rfl <;> cases neg <;> first | decide +kernel | (exact absurd h (by decide))
set_option maxRecDepth 100000 in
set_option maxHeartbeats 4000000 in
theorem word_yes (id : Int) (h1 : 1 ≤ id) (h2 : id < 15) (kd : Int) (hk : kd = 2 ∨ kd = 3 ∨ kd = 4) (neg cut : Bool) (A : Option Addr) (n c : Nat) (k big : Int) (w : World) (hw : wordB id kd neg = true) :
    Calls Tryz.prog 45 #[.agg #[.int .i64 (fK id), .int .i64 (fW id), .int .i64 (fM id), .int .i64 (fB id), .int .u64 (fT id), .int .u64 (fI id), .int .u64 (fN id)], .agg #[.int .i64 kd, .bool neg, .slice A n c, .int .i64 k, .int .i64 big, .bool cut]] w fun e w' => e = .returned (.int .u64 (wordP id kd neg)) ∧ Below w.heap.size w w' := by
  have hsg := Lib.hid fun w => fo_sgn id h1 h2 w
  have hwo := word_or h1 h2 neg
  have hb0 : Below w.heap.size w ((w.alloc (.cells #[.int .i64 (fK id), .int .i64 (fW id), .int .i64 (fM id), .int .i64 (fB id), .int .u64 (fT id), .int .u64 (fI id), .int .u64 (fN id)] 39)).alloc (.cells #[.int .i64 kd, .bool neg, .slice A n c, .int .i64 k, .int .i64 big, .bool cut] 63)) := ((Below.refl _ _).alloc (Nat.le_refl _) _).alloc (by simp) _
  rcases hk with rfl | rfl | rfl
  · have hi : (fI id != 0) = true := by unfold wordB at hw; rw [if_pos rfl] at hw; exact hw
    replace hwo := hwo hi
    clear hw
    cases neg with
    | true =>
      rw [if_pos rfl] at hwo
      replace hwo := Lib.hid hwo
      go_enter Tryz.func45, Tryz.ntmps45
      go_wp2_with fail
      refine (hsg.out _).mono ?_
      rintro e u1 ⟨rfl, hb1⟩
      obtain ⟨hc1, hf1⟩ := bcell hb1
      have hz := hb1.size
      simp at hz
      have hB : Below w.heap.size w u1 := hb0.trans (hb1.mono (by simp; omega))
      go_wp2_with fail
      refine (qhas_yes 1 _).mono ?_
      rintro e u2 ⟨rfl, rfl⟩
      go_wp2
      rw [hwo.out]
      go_ret
      exact ⟨rfl, hB⟩
    | false =>
      rw [if_neg (by decide)] at hwo
      replace hwo := Lib.hid hwo
      go_enter Tryz.func45, Tryz.ntmps45
      have hB := hb0
      go_wp2_with fail
      refine (qhas_yes 0 _).mono ?_
      rintro e u2 ⟨rfl, rfl⟩
      go_wp2
      rw [hwo.out]
      go_ret
      exact ⟨rfl, hB⟩
  · have hP : wordP id 3 neg = fN id := by unfold wordP; rw [if_neg (by decide)]
    rw [hP]
    have hi : (fN id != 0) = true ∧ (fK id == 1) = false := by
      unfold wordB at hw
      rw [if_neg (by decide), if_pos rfl] at hw
      simpa using hw
    obtain ⟨hi1, hi2⟩ := hi
    clear hw hwo hP
    cases neg with
    | true =>
      skip
      go_enter Tryz.func45, Tryz.ntmps45
      go_wp2_with fail
      refine (hsg.out _).mono ?_
      rintro e u1 ⟨rfl, hb1⟩
      obtain ⟨hc1, hf1⟩ := bcell hb1
      have hz := hb1.size
      simp at hz
      have hB : Below w.heap.size w u1 := hb0.trans (hb1.mono (by simp; omega))
      go_wp2_with fail
      refine (qhas_yes 1 _).mono ?_
      rintro e u2 ⟨rfl, rfl⟩
      go_wp2
      go_ret
      exact ⟨rfl, hB⟩
    | false =>
      skip
      go_enter Tryz.func45, Tryz.ntmps45
      have hB := hb0
      go_wp2_with fail
      refine (qhas_yes 0 _).mono ?_
      rintro e u2 ⟨rfl, rfl⟩
      go_wp2
      go_ret
      exact ⟨rfl, hB⟩
  · have hP : wordP id 4 neg = fN id := by unfold wordP; rw [if_neg (by decide)]
    rw [hP]
    have hi : (fK id == 1) = true ∧ neg = false := by
      unfold wordB at hw
      rw [if_neg (by decide), if_neg (by decide)] at hw
      simpa using hw
    obtain ⟨hi1, rfl⟩ := hi
    clear hw hwo hP
    focus
      skip
      go_enter Tryz.func45, Tryz.ntmps45
      have hB := hb0
      go_wp2_with fail
      refine (qhas_yes 0 _).mono ?_
      rintro e u2 ⟨rfl, rfl⟩
      go_wp2
      go_ret
      exact ⟨rfl, hB⟩
set_option maxRecDepth 100000 in
set_option maxHeartbeats 4000000 in
theorem word_no (id : Int) (h1 : 1 ≤ id) (h2 : id < 15) (kd : Int) (hk : kd = 2 ∨ kd = 3 ∨ kd = 4) (neg cut : Bool) (A : Option Addr) (n c : Nat) (k big : Int) (w : World) (hw : wordB id kd neg = false) :
    Calls Tryz.prog 45 #[.agg #[.int .i64 (fK id), .int .i64 (fW id), .int .i64 (fM id), .int .i64 (fB id), .int .u64 (fT id), .int .u64 (fI id), .int .u64 (fN id)], .agg #[.int .i64 kd, .bool neg, .slice A n c, .int .i64 k, .int .i64 big, .bool cut]] w fun e w' => e = .panicked [{ v := .iface 90 (.agg #[.int .i64 (if neg = true then 1 else 0), .int .i64 5]), recovered := false }] ∧ Below w.heap.size w w' := by
  have hsg := Lib.hid fun w => fo_sgn id h1 h2 w
  have hb0 : Below w.heap.size w ((w.alloc (.cells #[.int .i64 (fK id), .int .i64 (fW id), .int .i64 (fM id), .int .i64 (fB id), .int .u64 (fT id), .int .u64 (fI id), .int .u64 (fN id)] 39)).alloc (.cells #[.int .i64 kd, .bool neg, .slice A n c, .int .i64 k, .int .i64 big, .bool cut] 63)) := ((Below.refl _ _).alloc (Nat.le_refl _) _).alloc (by simp) _
  have hcs : (kd = 2 ∧ (fI id != 0) = false) ∨ (kd = 3 ∧ (fN id != 0) = false) ∨ (kd = 3 ∧ (fN id != 0) = true ∧ (fK id == 1) = true) ∨ (kd = 4 ∧ (fK id == 1) = false) ∨ (kd = 4 ∧ (fK id == 1) = true ∧ neg = true) := by
    unfold wordB at hw
    rcases hk with rfl | rfl | rfl
    · rw [if_pos rfl] at hw
      exact .inl ⟨rfl, hw⟩
    · rw [if_neg (by decide), if_pos rfl] at hw
      cases h3 : (fN id != 0)
      · exact .inr (.inl ⟨rfl, rfl⟩)
      · rw [h3] at hw
        exact .inr (.inr (.inl ⟨rfl, rfl, by simpa using hw⟩))
    · rw [if_neg (by decide), if_neg (by decide)] at hw
      cases h3 : (fK id == 1)
      · exact .inr (.inr (.inr (.inl ⟨rfl, rfl⟩)))
      · rw [h3] at hw
        exact .inr (.inr (.inr (.inr ⟨rfl, rfl, by simpa using hw⟩)))
  clear hk hw
  cases neg with
  | true =>
    rcases hcs with ⟨rfl, k1⟩ | ⟨rfl, k1⟩ | ⟨rfl, k1, k2⟩ | ⟨rfl, k1⟩ | ⟨rfl, k1, -⟩
    all_goals
      skip
      go_enter Tryz.func45, Tryz.ntmps45
      go_wp2_with fail
      refine (hsg.out _).mono ?_
      rintro e u1 ⟨rfl, hb1⟩
      obtain ⟨hc1, hf1⟩ := bcell hb1
      have hz := hb1.size
      simp at hz
      have hB : Below w.heap.size w u1 := hb0.trans (hb1.mono (by simp; omega))
      go_wp2_with fail
      refine (qhas_no 1 _).mono ?_
      rintro e u2 ⟨rfl, rfl⟩
      go_wp2
      exact ⟨rfl, rfl, hB⟩
  | false =>
    rcases hcs with ⟨rfl, k1⟩ | ⟨rfl, k1⟩ | ⟨rfl, k1, k2⟩ | ⟨rfl, k1⟩ | ⟨rfl, k1, k3⟩
    case inr.inr.inr.inr => exact absurd k3 (by decide)
    all_goals
      skip
      go_enter Tryz.func45, Tryz.ntmps45
      have hB := hb0
      go_wp2_with fail
      refine (qhas_no 0 _).mono ?_
      rintro e u2 ⟨rfl, rfl⟩
      go_wp2
      exact ⟨rfl, rfl, hB⟩
end Go.Proofs.YtdlkfnkmdlcekaaGreatDoor
