/- Rounding: Round, walked: the pattern of a number. Conditions: the variables that values read. -/
/- Rounding: Round, walked: the pattern of a number. Conditions: the variables that values read. -/
/- Parse: what is wrong is thrown; words, walked. Conditions: none. -/
/- Values: a pattern's sign, magnitude and class, Decode, Key, walked. Conditions: the variables that values read. -/
import Derived.Test.YtobokaafmcfeaaaGreatDoorSk24
import Derived.Test.YtobokaafmcfeaaaGreatDoorSk22
namespace Go.Proofs.YtobokaafmcfeaaaGreatDoor
open Go.RowKit Go.Cal
theorem large_cases {id : Int} (h1 : 1 ≤ id) (h2 : id < 15) (mode : Int) (neg : Bool) :
    ((mode == 1) = true ∧ largeV id mode neg = patV id neg (mostV id neg)) ∨ ((mode == 1) = false ∧ (fK id == 1) = true ∧ largeV id mode neg = patV id neg (mostV id neg)) ∨
    ((mode == 1) = false ∧ (fK id == 1) = false ∧ (bits BinOp.or IntKind.u64 (fI id) (fN id) == 0) = true ∧ largeV id mode neg = patV id neg (mostV id neg)) ∨
    ((mode == 1) = false ∧ (fK id == 1) = false ∧ (bits BinOp.or IntKind.u64 (fI id) (fN id) == 0) = false ∧ (fI id == 0) = true ∧ largeV id mode neg = fN id) ∨
    ((mode == 1) = false ∧ (fK id == 1) = false ∧ (bits BinOp.or IntKind.u64 (fI id) (fN id) == 0) = false ∧ (fI id == 0) = false ∧ neg = false ∧ largeV id mode neg = fI id) ∨
    ((mode == 1) = false ∧ (fK id == 1) = false ∧ (bits BinOp.or IntKind.u64 (fI id) (fN id) == 0) = false ∧ (fI id == 0) = false ∧ neg = true ∧ fK id ≠ 4 ∧ fI id < 2 ^ ((fW id).toNat - 1) ∧ largeV id mode neg = fI id + 2 ^ ((fW id).toNat - 1)) := by
  by_cases hm : mode = 1
  · left
    refine ⟨by simp [hm], ?_⟩
    unfold largeV
    rw [if_pos (.inl hm)]
  · right
    have hm' : (mode == 1) = false := by simp [hm]
    simp only [hm', true_and]
    have hl : largeV id mode neg = largeV id 2 neg := by
      unfold largeV
      simp only [hm, false_or, show ¬ ((2 : Int) = 1) by decide]
    rw [hl]
    clear hl hm hm'
    rcases id_cases h1 h2 with rfl | rfl | rfl | rfl | rfl | rfl | rfl | rfl | rfl | rfl | rfl | rfl | rfl | rfl <;> cases neg <;> decide +kernel
set_option maxRecDepth 100000 in
set_option maxHeartbeats 1000000 in
theorem rlarge_any (id mode : Int) (neg : Bool) (he : mostE id neg = 0) (w : World) (hW : VaW w) :
    Calls Tryz.prog 139 #[.agg #[.int .i64 (fK id), .int .i64 (fW id), .int .i64 (fM id), .int .i64 (fB id), .int .u64 (fT id), .int .u64 (fI id), .int .u64 (fN id)], .int .i64 id, .int .i64 mode, .bool neg] w fun e w' => e = .returned (.int .u64 (largeV id mode neg)) ∧ Below w.heap.size w w' := by
  obtain ⟨h1, h2, h4⟩ := mostE_zero he
  obtain ⟨hmf, hmR⟩ := most_fit he
  obtain ⟨w1, w2, -⟩ := fo_wide h1 h2
  have hbn := mostV_bnd id neg
  have hmo := fun w hW => vmost_any id neg w hW
  rw [he, hmR] at hmo
  replace hmo := Lib.hid hmo
  have hpt := Lib.hid (fun w hW => vpat_any id neg (mostV id neg) he (by omega) (Int.le_refl _) w hW)
  have hL := (((LiveP.start w).go ((Below.refl w.heap.size w).alloc (Nat.le_refl _) (.cells #[.int .i64 (fK id), .int .i64 (fW id), .int .i64 (fM id), .int .i64 (fB id), .int .u64 (fT id), .int .u64 (fI id), .int .u64 (fN id)] 67))).put (pBlk_st _ _ _) (pBlk_made w #[.int .i64 (fK id), .int .i64 (fW id), .int .i64 (fM id), .int .i64 (fB id), .int .u64 (fT id), .int .u64 (fI id), .int .u64 (fN id)] 67))
  have hlc := large_cases h1 h2 mode neg
  have hft := ft_bounds id
  have hsg := Lib.hid fun (hk : fK id ≠ 4) w => fo_sign (fK id) (fW id) (fM id) (fB id) (fT id) (fI id) (fN id) w (by omega) (by omega) hk
  have hor := Lib.hid fun (hi : fI id < 2 ^ ((fW id).toNat - 1)) => pat_or (fI id) ((fW id).toNat - 1) (by omega) (by omega) hi
  clear h1 h2 h4 he hmf hmR hbn w1 w2 hft
  rcases hlc with ⟨a1, hv⟩ | ⟨a1, a2, hv⟩ | ⟨a1, a2, a3, hv⟩ | ⟨a1, a2, a3, a4, hv⟩ | ⟨a1, a2, a3, a4, rfl, hv⟩ | ⟨a1, a2, a3, a4, rfl, a5, a6, hv⟩
  case inr.inr.inr.inr.inr =>
    rw [hv]
    clear hv
    have hsg' := Lib.hid (hsg.out a5)
    have hor' := Lib.hid (hor.out a6)
    clear hsg hor
    replace a5 := Lib.hid a5
    replace a6 := Lib.hid a6
    go_enter Tryz.func139, Tryz.ntmps139
    go_wp2_with fail
    refine (hmo.out _ (hW.below hL.below)).mono ?_
    rintro e u1 ⟨rfl, hb1⟩
    replace hL := hL.go hb1
    go_wp2_with fail
    refine (hpt.out _ (hW.below hL.below)).mono ?_
    rintro e u2 ⟨rfl, hb2⟩
    replace hL := hL.go hb2
    have hq := hL.get (P := pBlk w.heap.size #[.int .i64 (fK id), .int .i64 (fW id), .int .i64 (fM id), .int .i64 (fB id), .int .u64 (fT id), .int .u64 (fI id), .int .u64 (fN id)] 67) (by repeat (first | exact List.mem_cons_self | apply List.mem_cons_of_mem))
    have q0 := hq.cell 0 _ rfl
    have q1 := hq.cell 1 _ rfl
    have q2 := hq.cell 2 _ rfl
    have q3 := hq.cell 3 _ rfl
    have q4 := hq.cell 4 _ rfl
    have q5 := hq.cell 5 _ rfl
    have q6 := hq.cell 6 _ rfl
    have hzl : w.heap.size < u2.heap.size := by
      have := hq
      unfold pBlk at this
      exact (Array.getElem?_eq_some_iff.1 this).1
    go_wp2_with fail
    have k0 := fun (u : Later u2.heap.size u2) => u.cell w.heap.size 0 _ hzl q0
    have k1 := fun (u : Later u2.heap.size u2) => u.cell w.heap.size 1 _ hzl q1
    have k2 := fun (u : Later u2.heap.size u2) => u.cell w.heap.size 2 _ hzl q2
    have k3 := fun (u : Later u2.heap.size u2) => u.cell w.heap.size 3 _ hzl q3
    have k4 := fun (u : Later u2.heap.size u2) => u.cell w.heap.size 4 _ hzl q4
    have k5 := fun (u : Later u2.heap.size u2) => u.cell w.heap.size 5 _ hzl q5
    have k6 := fun (u : Later u2.heap.size u2) => u.cell w.heap.size 6 _ hzl q6
    refine wp_region_later (B := u2.heap.size) (by kernel_rfl) (by kernel_rfl) (Below.refl _ _) ?_
    repeat (go_big_quiet_step ((go_at_call 134; exact Calls.later_of (Nat.le_refl _) (hsg'.out _))))
    refine wpQuiet_nil ?_
    intro w2 hb3
    go_wp2
    rw [hor'.out]
    go_ret
    exact ⟨rfl, hL.below.trans (hb3.mono hL.below.size)⟩
  all_goals
    rw [hv]
    clear hv
    go_enter Tryz.func139, Tryz.ntmps139
    go_wp2_with fail
    refine (hmo.out _ (hW.below hL.below)).mono ?_
    rintro e u1 ⟨rfl, hb1⟩
    replace hL := hL.go hb1
    go_wp2_with fail
    refine (hpt.out _ (hW.below hL.below)).mono ?_
    rintro e u2 ⟨rfl, hb2⟩
    replace hL := hL.go hb2
    have hq := hL.get (P := pBlk w.heap.size #[.int .i64 (fK id), .int .i64 (fW id), .int .i64 (fM id), .int .i64 (fB id), .int .u64 (fT id), .int .u64 (fI id), .int .u64 (fN id)] 67) (by repeat (first | exact List.mem_cons_self | apply List.mem_cons_of_mem))
    have q0 := hq.cell 0 _ rfl
    have q1 := hq.cell 1 _ rfl
    have q2 := hq.cell 2 _ rfl
    have q3 := hq.cell 3 _ rfl
    have q4 := hq.cell 4 _ rfl
    have q5 := hq.cell 5 _ rfl
    have q6 := hq.cell 6 _ rfl
    go_wp2
    go_ret
    exact ⟨rfl, hL.below⟩
end Go.Proofs.YtobokaafmcfeaaaGreatDoor
namespace Go.Proofs.YtobokaafmcfeaaaGreatDoor
open Go.RowKit Go.Cal
/-- What Round tells. -/
def roundR (id mode : Int) (neg : Bool) (P Q : Nat) : Int := if roundE id mode = 0 then roundP id mode neg P Q else 0
theorem round_cases (id mode : Int) (neg : Bool) (P Q N : Nat) (hP : P = 0 ↔ N = 0) :
    ((id < 1 ∨ 15 ≤ id) ∧ roundE id mode = 3 ∧ roundR id mode neg P Q = 0) ∨ (1 ≤ id ∧ id < 15 ∧
      (((mode != 1) = true ∧ (mode != 2) = true ∧ roundE id mode = 1 ∧ roundR id mode neg P Q = 0) ∨
       ((((mode != 1) = false) ∨ ((mode != 1) = true ∧ (mode != 2) = false)) ∧ roundE id mode = 0 ∧
         (((fK id == 4) = true ∧ neg = true ∧ roundR id mode neg P Q = fN id) ∨ ((fK id == 4) = true ∧ neg = false ∧ decide (N = 0) = true ∧ roundR id mode neg P Q = fN id) ∨
          ((((fK id == 4) = true ∧ neg = false ∧ decide (N = 0) = false) ∨ (fK id == 4) = false) ∧ mostE id neg = 0 ∧
            ((overB id neg P Q = true ∧ roundR id mode neg P Q = largeV id mode neg) ∨ (overB id neg P Q = false ∧ nearV id neg P Q = (nearK id neg P Q : Nat) ∧ roundR id mode neg P Q = patV id neg (nearK id neg P Q : Nat)))))))) := by
  by_cases hid : id < 1 ∨ 15 ≤ id
  · have hE : roundE id mode = 3 := by unfold roundE; rw [if_pos hid]
    exact .inl ⟨hid, hE, by unfold roundR; rw [hE]; rfl⟩
  · right
    refine ⟨by omega, by omega, ?_⟩
    by_cases hm : mode ≠ 1 ∧ mode ≠ 2
    · left
      have hE : roundE id mode = 1 := by unfold roundE; rw [if_neg hid, if_pos hm]
      exact ⟨by simp [hm.1], by simp [hm.2], hE, by unfold roundR; rw [hE]; rfl⟩
    · right
      have hE : roundE id mode = 0 := by unfold roundE; rw [if_neg hid, if_neg hm]
      have hR : roundR id mode neg P Q = roundP id mode neg P Q := by unfold roundR; rw [if_pos hE]
      refine ⟨?_, hE, ?_⟩
      · by_cases h1 : mode = 1
        · left; simp [h1]
        · right
          refine ⟨by simp [h1], ?_⟩
          have : mode = 2 := Classical.byContradiction fun h => hm ⟨h1, h⟩
          simp [this]
      · rw [hR]
        unfold roundP
        by_cases h4 : fK id = 4 ∧ (neg = true ∨ P = 0)
        · rw [if_pos h4]
          have h4' : (fK id == 4) = true := by simp [h4.1]
          cases neg with
          | true => exact .inl ⟨h4', rfl, rfl⟩
          | false => exact .inr (.inl ⟨h4', rfl, decide_eq_true (hP.1 (by rcases h4.2 with h | h; exact absurd h (by decide); exact h)), rfl⟩)
        · rw [if_neg h4]
          right; right
          refine ⟨?_, ?_, ?_⟩
          · by_cases h : fK id = 4
            · left
              refine ⟨by simp [h], ?_, decide_eq_false fun h0 => h4 ⟨h, .inr (hP.2 h0)⟩⟩
              cases neg with
              | true => exact absurd ⟨h, .inl rfl⟩ h4
              | false => rfl
            · right; simp [h]
          · unfold mostE
            rw [if_neg hid, if_neg (fun h => h4 ⟨h.2, .inl h.1⟩)]
          · cases ho : overB id neg P Q with
            | true => left; exact ⟨rfl, by rw [if_pos rfl]⟩
            | false =>
              right
              refine ⟨rfl, ?_, by rw [if_neg (by decide)]⟩
              unfold nearV
              rw [ho, if_neg (by decide)]
theorem expP_zero (N : Nat) (t f : Int) : exP N t f = 0 ↔ N = 0 := by
  constructor
  · intro h0
    rcases Nat.eq_zero_or_pos N with h3 | h3
    · exact h3
    · have := exP_pos t f h3; omega
  · intro h0; rw [h0]; exact exP_zero t f
set_option maxRecDepth 100000 in
set_option maxHeartbeats 4000000 in
theorem rround_any (id mode : Int) (neg : Bool) {A : Option Addr} {n c N : Nat} (t f : Int) {w : World} (hW : VaW w) (h : IsT w (.slice A n c) 128 N) (ht : -5000 ≤ t ∧ t ≤ 5000) (hf : -5000 ≤ f ∧ f ≤ 5000) :
    Calls Tryz.prog 62 #[.int .i64 id, .int .i64 mode, .agg #[.bool neg, .slice A n c, .int .i64 t, .int .i64 f]] w fun e w' => e = .returned (.tuple #[.int .u64 (roundR id mode neg (exP N t f) (exQ t f)), .int .i64 (roundE id mode)]) ∧ Below w.heap.size w w' := by
  have hcs := round_cases id mode neg (exP N t f) (exQ t f) N (expP_zero N t f)
  have hnr := Lib.hid (fun (he : mostE id neg = 0) (W : World) (hW : VaW W) (hv : IsT W (.slice A n c) 128 N) => nearest_any id neg he t f hW hv ht hf)
  have hlg := Lib.hid (fun (he : mostE id neg = 0) (W : World) (hW : VaW W) => rlarge_any id mode neg he W hW)
  have hpt := Lib.hid (fun (he : mostE id neg = 0) (W : World) (hW : VaW W) => vpat_any id neg (nearK id neg (exP N t f) (exQ t f) : Nat) he (by omega) (nearK_le id neg _ _) W hW)
  have hrt := Lib.hid (fun (W : World) (hv : IsT W (.slice A n c) 128 N) => xright_yes neg t f hv ht hf)
  have hzr := Lib.hid (fun (W : World) (hv : IsT W (.slice A n c) 128 N) => rzero_any neg t f hv)
  generalize exP N t f = P at hcs hnr hpt ⊢
  generalize exQ t f = Q at hcs hnr hpt ⊢
  have hb0 := (Below.refl w.heap.size w).alloc (Nat.le_refl _) (.cells #[.bool neg, .slice A n c, .int .i64 t, .int .i64 f] 101)
  have hL := (((LiveP.start w).go hb0).put (pBlk_st _ _ _) (pBlk_made w #[.bool neg, .slice A n c, .int .i64 t, .int .i64 f] 101)).put (pT_st (.slice A n c) 128 N) (h.below hb0)
  clear h hb0
  rcases hcs with ⟨hid, hE, hR⟩ | ⟨h1, h2, hcs⟩
  · rw [hE, hR]
    have hfn := Lib.hid (fun w => fo_none id w hid)
    clear hid hE hR hnr hlg hpt hrt hzr
    go_enter Tryz.func62, Tryz.ntmps62
    go_wp2_with fail
    refine (hfn.out _).mono ?_
    rintro e u1 ⟨rfl, hb1⟩
    go_wp2
    go_ret2
    exact ⟨rfl, ((hL.go hb1).go ((Below.refl _ _).alloc (Nat.le_refl _) _)).below⟩
  · have hfo := Lib.hid (fun (W : World) (hW : VaW W) => fo_of id W hW.frm h1 h2)
    rcases hcs with ⟨m1, m2, hE, hR⟩ | ⟨hmd, hE, hcs⟩
    · rw [hE, hR]
      clear hE hR hnr hlg hpt hzr
      go_enter Tryz.func62, Tryz.ntmps62
      go_wp2_with fail
      refine (hfo.out _ (hW.below hL.below)).mono ?_
      rintro e u1 ⟨rfl, hb1⟩
      go_wp2
      go_ret2
      exact ⟨rfl, ((hL.go hb1).go ((Below.refl _ _).alloc (Nat.le_refl _) _)).below⟩
    · rw [hE]
      clear hE
      rcases hcs with ⟨k4, rfl, hR⟩ | ⟨k4, rfl, hz, hR⟩ | ⟨hk, hmo, hcs⟩
      · rw [hR]
        clear hR hnr hlg hpt hzr
        rcases hmd with m1 | ⟨m1, m2⟩
        all_goals
          go_enter Tryz.func62, Tryz.ntmps62
          go_wp2_with fail
          refine (hfo.out _ (hW.below hL.below)).mono ?_
          rintro e u1 ⟨rfl, hb1⟩
          replace hL := (hL.go hb1).go ((Below.refl _ _).alloc (Nat.le_refl _) (.cells #[.int .i64 (fK id), .int .i64 (fW id), .int .i64 (fM id), .int .i64 (fB id), .int .u64 (fT id), .int .u64 (fI id), .int .u64 (fN id)] 67))
          obtain ⟨r0, r1, r2, r3⟩ := cells4 (hL.get (P := pBlk w.heap.size #[.bool true, .slice A n c, .int .i64 t, .int .i64 f] 101) (by repeat (first | exact List.mem_cons_self | apply List.mem_cons_of_mem)))
          go_wp2_with fail
          refine (hrt.out _ (hL.get (P := pT (.slice A n c) 128 N) (by repeat (first | exact List.mem_cons_self | apply List.mem_cons_of_mem)))).mono ?_
          rintro e u2 ⟨rfl, hb2⟩
          have hq := pBlk_st _ _ _ _ _ (pBlk_made u1 #[.int .i64 (fK id), .int .i64 (fW id), .int .i64 (fM id), .int .i64 (fB id), .int .u64 (fT id), .int .u64 (fI id), .int .u64 (fN id)] 67) hb2
          replace hL := hL.go hb2
          clear r0 r1 r2 r3
          obtain ⟨r0, r1, r2, r3⟩ := cells4 (hL.get (P := pBlk w.heap.size #[.bool true, .slice A n c, .int .i64 t, .int .i64 f] 101) (by repeat (first | exact List.mem_cons_self | apply List.mem_cons_of_mem)))
          have q0 := hq.cell 0 _ rfl
          have q6 := hq.cell 6 _ rfl
          go_wp2
          go_ret2
          exact ⟨rfl, hL.below⟩
      · rw [hR]
        have hz' := Lib.hid hz
        clear hR hnr hlg hpt hz
        rcases hmd with m1 | ⟨m1, m2⟩
        all_goals
          skip
          go_enter Tryz.func62, Tryz.ntmps62
          go_wp2_with fail
          refine (hfo.out _ (hW.below hL.below)).mono ?_
          rintro e u1 ⟨rfl, hb1⟩
          replace hL := (hL.go hb1).go ((Below.refl _ _).alloc (Nat.le_refl _) (.cells #[.int .i64 (fK id), .int .i64 (fW id), .int .i64 (fM id), .int .i64 (fB id), .int .u64 (fT id), .int .u64 (fI id), .int .u64 (fN id)] 67))
          obtain ⟨r0, r1, r2, r3⟩ := cells4 (hL.get (P := pBlk w.heap.size #[.bool false, .slice A n c, .int .i64 t, .int .i64 f] 101) (by repeat (first | exact List.mem_cons_self | apply List.mem_cons_of_mem)))
          go_wp2_with fail
          refine (hrt.out _ (hL.get (P := pT (.slice A n c) 128 N) (by repeat (first | exact List.mem_cons_self | apply List.mem_cons_of_mem)))).mono ?_
          rintro e u2 ⟨rfl, hb2⟩
          have hq := pBlk_st _ _ _ _ _ (pBlk_made u1 #[.int .i64 (fK id), .int .i64 (fW id), .int .i64 (fM id), .int .i64 (fB id), .int .u64 (fT id), .int .u64 (fI id), .int .u64 (fN id)] 67) hb2
          replace hL := hL.go hb2
          clear r0 r1 r2 r3
          obtain ⟨r0, r1, r2, r3⟩ := cells4 (hL.get (P := pBlk w.heap.size #[.bool false, .slice A n c, .int .i64 t, .int .i64 f] 101) (by repeat (first | exact List.mem_cons_self | apply List.mem_cons_of_mem)))
          have q0 := hq.cell 0 _ rfl
          have q6 := hq.cell 6 _ rfl
          go_wp2_with fail
          refine (hzr.out _ (hL.get (P := pT (.slice A n c) 128 N) (by repeat (first | exact List.mem_cons_self | apply List.mem_cons_of_mem)))).mono ?_
          rintro e u3 ⟨rfl, hb3⟩
          rw [hz'.out]
          have hq3 := pBlk_st _ _ _ _ _ hq hb3
          replace hL := hL.go hb3
          clear r0 r1 r2 r3 q0 q6 hq
          have hq := hq3
          obtain ⟨r0, r1, r2, r3⟩ := cells4 (hL.get (P := pBlk w.heap.size #[.bool false, .slice A n c, .int .i64 t, .int .i64 f] 101) (by repeat (first | exact List.mem_cons_self | apply List.mem_cons_of_mem)))
          have q0 := hq.cell 0 _ rfl
          have q6 := hq.cell 6 _ rfl
          go_wp2
          go_ret2
          exact ⟨rfl, hL.below⟩
      · have hnr' := hnr.out hmo
        have hlg' := hlg.out hmo
        have hpt' := hpt.out hmo
        clear hnr hlg hpt hmo
        rcases hcs with ⟨ho, hR⟩ | ⟨ho, hn, hR⟩
        · rw [hR]
          rw [ho] at hnr'
          generalize nearV id neg P Q = nv at hnr'
          have hend := Lib.hid hlg'
          replace hnr' := Lib.hid hnr'
          clear hR ho hlg' hpt'
          rcases hk with ⟨k4, rfl, hz⟩ | k4
          · have hz' := Lib.hid hz
            clear hz
            rcases hmd with m1 | ⟨m1, m2⟩
            all_goals
              skip
              go_enter Tryz.func62, Tryz.ntmps62
              go_wp2_with fail
              refine (hfo.out _ (hW.below hL.below)).mono ?_
              rintro e u1 ⟨rfl, hb1⟩
              replace hL := (hL.go hb1).go ((Below.refl _ _).alloc (Nat.le_refl _) (.cells #[.int .i64 (fK id), .int .i64 (fW id), .int .i64 (fM id), .int .i64 (fB id), .int .u64 (fT id), .int .u64 (fI id), .int .u64 (fN id)] 67))
              obtain ⟨r0, r1, r2, r3⟩ := cells4 (hL.get (P := pBlk w.heap.size #[.bool false, .slice A n c, .int .i64 t, .int .i64 f] 101) (by repeat (first | exact List.mem_cons_self | apply List.mem_cons_of_mem)))
              go_wp2_with fail
              refine (hrt.out _ (hL.get (P := pT (.slice A n c) 128 N) (by repeat (first | exact List.mem_cons_self | apply List.mem_cons_of_mem)))).mono ?_
              rintro e u2 ⟨rfl, hb2⟩
              have hq := pBlk_st _ _ _ _ _ (pBlk_made u1 #[.int .i64 (fK id), .int .i64 (fW id), .int .i64 (fM id), .int .i64 (fB id), .int .u64 (fT id), .int .u64 (fI id), .int .u64 (fN id)] 67) hb2
              replace hL := hL.go hb2
              clear r0 r1 r2 r3
              obtain ⟨r0, r1, r2, r3⟩ := cells4 (hL.get (P := pBlk w.heap.size #[.bool false, .slice A n c, .int .i64 t, .int .i64 f] 101) (by repeat (first | exact List.mem_cons_self | apply List.mem_cons_of_mem)))
              have q0 := hq.cell 0 _ rfl
              have q6 := hq.cell 6 _ rfl
              go_wp2_with fail
              refine (hzr.out _ (hL.get (P := pT (.slice A n c) 128 N) (by repeat (first | exact List.mem_cons_self | apply List.mem_cons_of_mem)))).mono ?_
              rintro e u3 ⟨rfl, hb3⟩
              rw [hz'.out]
              have hq3 := pBlk_st _ _ _ _ _ hq hb3
              replace hL := hL.go hb3
              clear r0 r1 r2 r3 q0 q6 hq
              have hq := hq3
              obtain ⟨r0, r1, r2, r3⟩ := cells4 (hL.get (P := pBlk w.heap.size #[.bool false, .slice A n c, .int .i64 t, .int .i64 f] 101) (by repeat (first | exact List.mem_cons_self | apply List.mem_cons_of_mem)))
              have q0 := hq.cell 0 _ rfl
              have q6 := hq.cell 6 _ rfl
              go_wp2_with fail
              refine (hnr'.out _ (hW.below hL.below) (hL.get (P := pT (.slice A n c) 128 N) (by repeat (first | exact List.mem_cons_self | apply List.mem_cons_of_mem)))).mono ?_
              rintro e u4 ⟨rfl, hb4⟩
              replace hq := pBlk_st _ _ _ _ _ hq hb4
              replace hL := hL.go hb4
              clear r0 r1 r2 r3 q0 q6
              obtain ⟨r0, r1, r2, r3⟩ := cells4 (hL.get (P := pBlk w.heap.size #[.bool false, .slice A n c, .int .i64 t, .int .i64 f] 101) (by repeat (first | exact List.mem_cons_self | apply List.mem_cons_of_mem)))
              have q0 := hq.cell 0 _ rfl
              have q1 := hq.cell 1 _ rfl
              have q2 := hq.cell 2 _ rfl
              have q3 := hq.cell 3 _ rfl
              have q4 := hq.cell 4 _ rfl
              have q5 := hq.cell 5 _ rfl
              have q6 := hq.cell 6 _ rfl
              go_wp2_with fail
              refine (hend.out _ (hW.below hL.below)).mono ?_
              rintro e u5 ⟨rfl, hb5⟩
              go_wp2
              go_ret2
              exact ⟨rfl, (hL.go hb5).below⟩
          · rcases hmd with m1 | ⟨m1, m2⟩
            all_goals
              skip
              go_enter Tryz.func62, Tryz.ntmps62
              go_wp2_with fail
              refine (hfo.out _ (hW.below hL.below)).mono ?_
              rintro e u1 ⟨rfl, hb1⟩
              replace hL := (hL.go hb1).go ((Below.refl _ _).alloc (Nat.le_refl _) (.cells #[.int .i64 (fK id), .int .i64 (fW id), .int .i64 (fM id), .int .i64 (fB id), .int .u64 (fT id), .int .u64 (fI id), .int .u64 (fN id)] 67))
              obtain ⟨r0, r1, r2, r3⟩ := cells4 (hL.get (P := pBlk w.heap.size #[.bool neg, .slice A n c, .int .i64 t, .int .i64 f] 101) (by repeat (first | exact List.mem_cons_self | apply List.mem_cons_of_mem)))
              go_wp2_with fail
              refine (hrt.out _ (hL.get (P := pT (.slice A n c) 128 N) (by repeat (first | exact List.mem_cons_self | apply List.mem_cons_of_mem)))).mono ?_
              rintro e u2 ⟨rfl, hb2⟩
              have hq := pBlk_st _ _ _ _ _ (pBlk_made u1 #[.int .i64 (fK id), .int .i64 (fW id), .int .i64 (fM id), .int .i64 (fB id), .int .u64 (fT id), .int .u64 (fI id), .int .u64 (fN id)] 67) hb2
              replace hL := hL.go hb2
              clear r0 r1 r2 r3
              obtain ⟨r0, r1, r2, r3⟩ := cells4 (hL.get (P := pBlk w.heap.size #[.bool neg, .slice A n c, .int .i64 t, .int .i64 f] 101) (by repeat (first | exact List.mem_cons_self | apply List.mem_cons_of_mem)))
              have q0 := hq.cell 0 _ rfl
              have q6 := hq.cell 6 _ rfl
              go_wp2_with fail
              refine (hnr'.out _ (hW.below hL.below) (hL.get (P := pT (.slice A n c) 128 N) (by repeat (first | exact List.mem_cons_self | apply List.mem_cons_of_mem)))).mono ?_
              rintro e u4 ⟨rfl, hb4⟩
              replace hq := pBlk_st _ _ _ _ _ hq hb4
              replace hL := hL.go hb4
              clear r0 r1 r2 r3 q0 q6
              obtain ⟨r0, r1, r2, r3⟩ := cells4 (hL.get (P := pBlk w.heap.size #[.bool neg, .slice A n c, .int .i64 t, .int .i64 f] 101) (by repeat (first | exact List.mem_cons_self | apply List.mem_cons_of_mem)))
              have q0 := hq.cell 0 _ rfl
              have q1 := hq.cell 1 _ rfl
              have q2 := hq.cell 2 _ rfl
              have q3 := hq.cell 3 _ rfl
              have q4 := hq.cell 4 _ rfl
              have q5 := hq.cell 5 _ rfl
              have q6 := hq.cell 6 _ rfl
              go_wp2_with fail
              refine (hend.out _ (hW.below hL.below)).mono ?_
              rintro e u5 ⟨rfl, hb5⟩
              go_wp2
              go_ret2
              exact ⟨rfl, (hL.go hb5).below⟩
        · rw [hR]
          rw [ho, hn] at hnr'
          generalize ((nearK id neg P Q : Nat) : Int) = nv at hnr' hpt' ⊢
          have hend := Lib.hid hpt'
          replace hnr' := Lib.hid hnr'
          clear hR ho hn hlg' hpt'
          rcases hk with ⟨k4, rfl, hz⟩ | k4
          · have hz' := Lib.hid hz
            clear hz
            rcases hmd with m1 | ⟨m1, m2⟩
            all_goals
              skip
              go_enter Tryz.func62, Tryz.ntmps62
              go_wp2_with fail
              refine (hfo.out _ (hW.below hL.below)).mono ?_
              rintro e u1 ⟨rfl, hb1⟩
              replace hL := (hL.go hb1).go ((Below.refl _ _).alloc (Nat.le_refl _) (.cells #[.int .i64 (fK id), .int .i64 (fW id), .int .i64 (fM id), .int .i64 (fB id), .int .u64 (fT id), .int .u64 (fI id), .int .u64 (fN id)] 67))
              obtain ⟨r0, r1, r2, r3⟩ := cells4 (hL.get (P := pBlk w.heap.size #[.bool false, .slice A n c, .int .i64 t, .int .i64 f] 101) (by repeat (first | exact List.mem_cons_self | apply List.mem_cons_of_mem)))
              go_wp2_with fail
              refine (hrt.out _ (hL.get (P := pT (.slice A n c) 128 N) (by repeat (first | exact List.mem_cons_self | apply List.mem_cons_of_mem)))).mono ?_
              rintro e u2 ⟨rfl, hb2⟩
              have hq := pBlk_st _ _ _ _ _ (pBlk_made u1 #[.int .i64 (fK id), .int .i64 (fW id), .int .i64 (fM id), .int .i64 (fB id), .int .u64 (fT id), .int .u64 (fI id), .int .u64 (fN id)] 67) hb2
              replace hL := hL.go hb2
              clear r0 r1 r2 r3
              obtain ⟨r0, r1, r2, r3⟩ := cells4 (hL.get (P := pBlk w.heap.size #[.bool false, .slice A n c, .int .i64 t, .int .i64 f] 101) (by repeat (first | exact List.mem_cons_self | apply List.mem_cons_of_mem)))
              have q0 := hq.cell 0 _ rfl
              have q6 := hq.cell 6 _ rfl
              go_wp2_with fail
              refine (hzr.out _ (hL.get (P := pT (.slice A n c) 128 N) (by repeat (first | exact List.mem_cons_self | apply List.mem_cons_of_mem)))).mono ?_
              rintro e u3 ⟨rfl, hb3⟩
              rw [hz'.out]
              have hq3 := pBlk_st _ _ _ _ _ hq hb3
              replace hL := hL.go hb3
              clear r0 r1 r2 r3 q0 q6 hq
              have hq := hq3
              obtain ⟨r0, r1, r2, r3⟩ := cells4 (hL.get (P := pBlk w.heap.size #[.bool false, .slice A n c, .int .i64 t, .int .i64 f] 101) (by repeat (first | exact List.mem_cons_self | apply List.mem_cons_of_mem)))
              have q0 := hq.cell 0 _ rfl
              have q6 := hq.cell 6 _ rfl
              go_wp2_with fail
              refine (hnr'.out _ (hW.below hL.below) (hL.get (P := pT (.slice A n c) 128 N) (by repeat (first | exact List.mem_cons_self | apply List.mem_cons_of_mem)))).mono ?_
              rintro e u4 ⟨rfl, hb4⟩
              replace hq := pBlk_st _ _ _ _ _ hq hb4
              replace hL := hL.go hb4
              clear r0 r1 r2 r3 q0 q6
              obtain ⟨r0, r1, r2, r3⟩ := cells4 (hL.get (P := pBlk w.heap.size #[.bool false, .slice A n c, .int .i64 t, .int .i64 f] 101) (by repeat (first | exact List.mem_cons_self | apply List.mem_cons_of_mem)))
              have q0 := hq.cell 0 _ rfl
              have q1 := hq.cell 1 _ rfl
              have q2 := hq.cell 2 _ rfl
              have q3 := hq.cell 3 _ rfl
              have q4 := hq.cell 4 _ rfl
              have q5 := hq.cell 5 _ rfl
              have q6 := hq.cell 6 _ rfl
              go_wp2_with fail
              refine (hend.out _ (hW.below hL.below)).mono ?_
              rintro e u5 ⟨rfl, hb5⟩
              go_wp2
              go_ret2
              exact ⟨rfl, (hL.go hb5).below⟩
          · rcases hmd with m1 | ⟨m1, m2⟩
            all_goals
              skip
              go_enter Tryz.func62, Tryz.ntmps62
              go_wp2_with fail
              refine (hfo.out _ (hW.below hL.below)).mono ?_
              rintro e u1 ⟨rfl, hb1⟩
              replace hL := (hL.go hb1).go ((Below.refl _ _).alloc (Nat.le_refl _) (.cells #[.int .i64 (fK id), .int .i64 (fW id), .int .i64 (fM id), .int .i64 (fB id), .int .u64 (fT id), .int .u64 (fI id), .int .u64 (fN id)] 67))
              obtain ⟨r0, r1, r2, r3⟩ := cells4 (hL.get (P := pBlk w.heap.size #[.bool neg, .slice A n c, .int .i64 t, .int .i64 f] 101) (by repeat (first | exact List.mem_cons_self | apply List.mem_cons_of_mem)))
              go_wp2_with fail
              refine (hrt.out _ (hL.get (P := pT (.slice A n c) 128 N) (by repeat (first | exact List.mem_cons_self | apply List.mem_cons_of_mem)))).mono ?_
              rintro e u2 ⟨rfl, hb2⟩
              have hq := pBlk_st _ _ _ _ _ (pBlk_made u1 #[.int .i64 (fK id), .int .i64 (fW id), .int .i64 (fM id), .int .i64 (fB id), .int .u64 (fT id), .int .u64 (fI id), .int .u64 (fN id)] 67) hb2
              replace hL := hL.go hb2
              clear r0 r1 r2 r3
              obtain ⟨r0, r1, r2, r3⟩ := cells4 (hL.get (P := pBlk w.heap.size #[.bool neg, .slice A n c, .int .i64 t, .int .i64 f] 101) (by repeat (first | exact List.mem_cons_self | apply List.mem_cons_of_mem)))
              have q0 := hq.cell 0 _ rfl
              have q6 := hq.cell 6 _ rfl
              go_wp2_with fail
              refine (hnr'.out _ (hW.below hL.below) (hL.get (P := pT (.slice A n c) 128 N) (by repeat (first | exact List.mem_cons_self | apply List.mem_cons_of_mem)))).mono ?_
              rintro e u4 ⟨rfl, hb4⟩
              replace hq := pBlk_st _ _ _ _ _ hq hb4
              replace hL := hL.go hb4
              clear r0 r1 r2 r3 q0 q6
              obtain ⟨r0, r1, r2, r3⟩ := cells4 (hL.get (P := pBlk w.heap.size #[.bool neg, .slice A n c, .int .i64 t, .int .i64 f] 101) (by repeat (first | exact List.mem_cons_self | apply List.mem_cons_of_mem)))
              have q0 := hq.cell 0 _ rfl
              have q1 := hq.cell 1 _ rfl
              have q2 := hq.cell 2 _ rfl
              have q3 := hq.cell 3 _ rfl
              have q4 := hq.cell 4 _ rfl
              have q5 := hq.cell 5 _ rfl
              have q6 := hq.cell 6 _ rfl
              go_wp2_with fail
              refine (hend.out _ (hW.below hL.below)).mono ?_
              rintro e u5 ⟨rfl, hb5⟩
              go_wp2
              go_ret2
              exact ⟨rfl, (hL.go hb5).below⟩
end Go.Proofs.YtobokaafmcfeaaaGreatDoor
namespace Go.Proofs.YtobokaafmcfeaaaGreatDoor
open Go.RowKit Go.Cal
theorem fo_sgn (id : Int) (h1 : 1 ≤ id) (h2 : id < 15) (w : World) : Calls Tryz.prog 134 #[.agg #[.int .i64 (fK id), .int .i64 (fW id), .int .i64 (fM id), .int .i64 (fB id), .int .u64 (fT id), .int .u64 (fI id), .int .u64 (fN id)]] w fun e w' => e = .returned (.int .u64 (sgV id)) ∧ Below w.heap.size w w' := by
  obtain ⟨w1, w2, -⟩ := fo_wide h1 h2
  unfold sgV
  by_cases h4 : fK id = 4
  · rw [if_pos h4, h4]
    exact fo_nosign _ _ _ _ _ _ w
  · rw [if_neg h4]
    exact fo_sign _ _ _ _ _ _ _ w (by omega) (by omega) h4
end Go.Proofs.YtobokaafmcfeaaaGreatDoor
namespace Go.Proofs.YtobokaafmcfeaaaGreatDoor
open Go.RowKit Go.Cal
theorem and_pow (p : Int) (n : Nat) (hn : n ≤ 63) (h0 : 0 ≤ p) (h1 : p < 2 ^ (n + 1)) : bits BinOp.and IntKind.u64 p (2 ^ n) = if p < 2 ^ n then 0 else 2 ^ n := by
  obtain ⟨k, rfl⟩ := Int.eq_ofNat_of_zero_le h0
  have e1 : (2 : Int) ^ n = ((2 ^ n : Nat) : Int) := by push_cast; rfl
  have e2 : (2 : Int) ^ (n + 1) = ((2 ^ (n + 1) : Nat) : Int) := by push_cast; rfl
  rw [e2] at h1
  have h3 : 2 ^ n ≤ 2 ^ 63 := Nat.pow_le_pow_right (by decide) hn
  have h4 : 2 ^ (n + 1) ≤ 2 ^ 64 := Nat.pow_le_pow_right (by decide) (by omega)
  have h2 : k < 2 ^ (n + 1) := by exact_mod_cast h1
  have hb : k &&& 2 ^ n = if k < 2 ^ n then 0 else 2 ^ n := by
    apply Nat.eq_of_testBit_eq
    intro i
    rw [Nat.testBit_and, Nat.testBit_two_pow]
    by_cases hi : n = i
    · subst hi
      by_cases hk : k < 2 ^ n
      · rw [if_pos hk, Nat.testBit_lt_two_pow hk]; simp
      · rw [if_neg hk, Nat.testBit_two_pow]
        have : k.testBit n = true := by
          rw [Nat.testBit_eq_decide_div_mod_eq]
          have : k / 2 ^ n = 1 := by
            rw [Nat.pow_succ] at h2
            exact Nat.div_eq_of_lt_le (by omega) (by omega)
          rw [this]; rfl
        rw [this]; simp
    · split
      · simp [hi]
      · rw [Nat.testBit_two_pow]; simp [hi]
  rw [e1, bits_and_u64_nat _ _ (by omega) (by omega), hb]
  by_cases hk : k < 2 ^ n
  · rw [if_pos hk, if_pos (by exact_mod_cast hk)]; rfl
  · rw [if_neg hk, if_neg (fun h => hk (by exact_mod_cast h))]
set_option maxRecDepth 100000 in
set_option maxHeartbeats 1000000 in
theorem vparts_any (id p : Int) (h1 : 1 ≤ id) (h2 : id < 15) (hp0 : 0 ≤ p) (hp1 : p < 2 ^ (fW id).toNat) (w : World) :
    Calls Tryz.prog 200 #[.agg #[.int .i64 (fK id), .int .i64 (fW id), .int .i64 (fM id), .int .i64 (fB id), .int .u64 (fT id), .int .u64 (fI id), .int .u64 (fN id), .func (.func (numI (fK id))) #[] #[]], .int .u64 p] w fun e w' => e = .returned (.tuple #[.bool (partN id p), .int .u64 (partK id p)]) ∧ Below w.heap.size w w' := by
  obtain ⟨w1, w2, -⟩ := fo_wide h1 h2
  have hsg := Lib.hid fun w => fo_sgn id h1 h2 w
  have hpw : (2 : Int) ^ ((fW id).toNat - 1 + 1) = 2 ^ (fW id).toNat := by rw [show (fW id).toNat - 1 + 1 = (fW id).toNat by omega]
  have hand := and_pow p ((fW id).toNat - 1) (by omega) hp0 (by rw [hpw]; exact hp1)
  by_cases h4 : fK id = 4
  · have hS : sgV id = 0 := by unfold sgV; rw [if_pos h4]
    have hN : partN id p = false := by unfold partN; simp [h4]
    have hK : partK id p = p := by unfold partK; rw [if_pos hN]
    rw [hN, hK]
    rw [hS] at hsg
    have h0 : bits BinOp.and IntKind.u64 p 0 = 0 := by
      have : p < 18446744073709551616 := by
        have : (2 : Int) ^ (fW id).toNat ≤ 2 ^ 64 := by
          have h5 : 2 ^ (fW id).toNat ≤ 2 ^ 64 := Nat.pow_le_pow_right (by decide) w1
          exact_mod_cast h5
        omega
      obtain ⟨k, rfl⟩ := Int.eq_ofNat_of_zero_le hp0
      have := bits_and_u64_nat k 0 (by omega) (by decide)
      simpa using this
    clear hand hpw hN hK hS hp1
    replace h4 := Lib.hid h4
    go_enter Tryz.func200, Tryz.ntmps200
    go_wp2_with fail
    refine (hsg.out _).mono ?_
    rintro e u1 ⟨rfl, hb⟩
    go_wp2
    go_ret2
    exact ⟨rfl, ((Below.refl _ _).alloc (Nat.le_refl _) _).trans (hb.mono (by simp))⟩
  · have hS : sgV id = 2 ^ ((fW id).toNat - 1) := by unfold sgV; rw [if_neg h4]
    rw [hS] at hsg
    by_cases hlt : p < 2 ^ ((fW id).toNat - 1)
    · rw [if_pos hlt] at hand
      have hN : partN id p = false := by unfold partN; simp; intro; omega
      have hK : partK id p = p := by unfold partK; rw [if_pos hN]
      rw [hN, hK]
      clear hpw hN hK hS hp1 hlt
      replace h4 := Lib.hid h4
      go_enter Tryz.func200, Tryz.ntmps200
      go_wp2_with fail
      refine (hsg.out _).mono ?_
      rintro e u1 ⟨rfl, hb⟩
      go_wp2
      go_ret2
      exact ⟨rfl, ((Below.refl _ _).alloc (Nat.le_refl _) _).trans (hb.mono (by simp))⟩
    · rw [if_neg hlt] at hand
      have hN : partN id p = true := by unfold partN; simp [h4]; omega
      have hpos := pow_pos ((fW id).toNat - 1)
      have hne : ((2 : Int) ^ ((fW id).toNat - 1) == 0) = false := by simp; omega
      by_cases h2k : fK id = 2
      · have hK : partK id p = p - 2 ^ ((fW id).toNat - 1) := by unfold partK; rw [if_neg (by rw [hN]; decide), if_pos h2k]
        have hhm := half_mod p ((fW id).toNat - 1) hp0 (by rw [hpw]; exact hp1) (by omega)
        have hmod : p % 2 ^ ((fW id).toNat - 1) = p - 2 ^ ((fW id).toNat - 1) := by
          rw [← Int.sub_emod_right]
          exact Int.emod_eq_of_lt (by omega) (by rw [← hpw, Int.pow_succ] at hp1; omega)
        rw [hmod] at hhm
        rw [hN, hK]
        have k2 : (fK id == 2) = true := by simp [h2k]
        replace hhm := Lib.hid hhm
        clear hpw hN hK hS hp1 hlt hmod hpos
        replace h4 := Lib.hid h4
        replace h2k := Lib.hid h2k
        go_enter Tryz.func200, Tryz.ntmps200
        go_wp2_with fail
        refine (hsg.out _).mono ?_
        rintro e u1 ⟨rfl, hb⟩
        have hB : Below w.heap.size w u1 := ((Below.refl _ _).alloc (Nat.le_refl _) _).trans (hb.mono (by simp))
        have hp := pBlk_st _ _ _ _ _ (pBlk_made w #[.int .i64 (fK id), .int .i64 (fW id), .int .i64 (fM id), .int .i64 (fB id), .int .u64 (fT id), .int .u64 (fI id), .int .u64 (fN id), .func (.func (numI (fK id))) #[] #[]] 257) hb
        obtain ⟨r0, r1, r2, r3, r4, r5, r6, r7⟩ := cells8 hp
        go_wp2_with fail
        refine (hsg.out _).mono ?_
        rintro e u2 ⟨rfl, hb2⟩
        go_wp2
        rw [hhm.out]
        go_ret2
        exact ⟨rfl, hB.trans (hb2.mono hB.size)⟩
      · have hK : partK id p = (-p) % 2 ^ (fW id).toNat := by unfold partK; rw [if_neg (by rw [hN]; decide), if_neg h2k]
        have hpa := Lib.hid (pat_and p (fW id).toNat w1)
        have hmk := Lib.hid (fun w => fo_mask (fK id) (fW id) (fM id) (fB id) (fT id) (fI id) (fN id) w (by omega) (by omega))
        rw [hN, hK]
        have k2 : (fK id == 2) = false := by simp [h2k]
        clear hpw hN hK hS hp1 hlt hpos
        replace h4 := Lib.hid h4
        replace h2k := Lib.hid h2k
        go_enter Tryz.func200, Tryz.ntmps200
        go_wp2_with fail
        refine (hsg.out _).mono ?_
        rintro e u1 ⟨rfl, hb⟩
        have hB : Below w.heap.size w u1 := ((Below.refl _ _).alloc (Nat.le_refl _) _).trans (hb.mono (by simp))
        have hp := pBlk_st _ _ _ _ _ (pBlk_made w #[.int .i64 (fK id), .int .i64 (fW id), .int .i64 (fM id), .int .i64 (fB id), .int .u64 (fT id), .int .u64 (fI id), .int .u64 (fN id), .func (.func (numI (fK id))) #[] #[]] 257) hb
        obtain ⟨r0, r1, r2, r3, r4, r5, r6, r7⟩ := cells8 hp
        go_wp2_with fail
        refine (hmk.out _).mono ?_
        rintro e u2 ⟨rfl, hb2⟩
        go_wp2
        rw [hpa.out]
        go_ret2
        exact ⟨rfl, hB.trans (hb2.mono hB.size)⟩
end Go.Proofs.YtobokaafmcfeaaaGreatDoor
