/- Rounding: Round, walked: the pattern of a number. Conditions: the variables that values read. -/
/- The document's values: the greatest magnitudes, patterns, boundaries; walked. Conditions: none. -/
/- The document's values: boundaries; walked. Conditions: none. -/
import Derived.Test.YtncfbleeidjflaaGreatDoorSu29
import Derived.Test.YtncfbleeidjflaaGreatDoorSu21
import Derived.Test.YtncfbleeidjflaaGreatDoorSu08
namespace Go.Proofs.YtncfbleeidjflaaGreatDoor
open Go.RowKit Go.Cal
/-- What Round tells. -/
def roundR (id mode : Int) (neg : Bool) (P Q : Nat) : Int := if roundE id mode = 0 then roundP id mode neg P Q else 0
theorem round_cases (id mode : Int) (neg : Bool) (P Q N : Nat) (hP : P = 0 ↔ N = 0) :
    ((id < 1 ∨ 15 ≤ id) ∧ roundE id mode = 3 ∧ roundR id mode neg P Q = 0) ∨ (1 ≤ id ∧ id < 15 ∧
      (((mode != 1) = true ∧ (mode != 2) = true ∧ roundE id mode = 1 ∧ roundR id mode neg P Q = 0) ∨
       ((((mode != 1) = false) ∨ ((mode != 1) = true ∧ (mode != 2) = false)) ∧ roundE id mode = 0 ∧
         (((fK id == 4) = true ∧ neg = true ∧ roundR id mode neg P Q = fN id) ∨ ((fK id == 4) = true ∧ neg = false ∧ decide (N = 0) = true ∧ roundR id mode neg P Q = fN id) ∨
          ((((fK id == 4) = true ∧ neg = false ∧ decide (N = 0) = false) ∨ (fK id == 4) = false) ∧ mostE id neg = 0 ∧
            ((overB id neg P Q = true ∧ roundR id mode neg P Q = largeV id mode neg) ∨ (overB id neg P Q = false ∧ nearV id neg P Q = (nearK id neg P Q : Nat) ∧ roundR id mode neg P Q = patV id neg (nearK id neg P Q : Nat)))))))) := by
  by_cases hid : id < 1 ∨ 15 ≤ id
  · have hE : roundE id mode = 3 := by unfold roundE; rw [if_pos hid]
    exact .inl ⟨hid, hE, by unfold roundR; rw [hE]; rfl⟩
  · right
    refine ⟨by omega, by omega, ?_⟩
    by_cases hm : mode ≠ 1 ∧ mode ≠ 2
    · left
      have hE : roundE id mode = 1 := by unfold roundE; rw [if_neg hid, if_pos hm]
      exact ⟨by simp [hm.1], by simp [hm.2], hE, by unfold roundR; rw [hE]; rfl⟩
    · right
      have hE : roundE id mode = 0 := by unfold roundE; rw [if_neg hid, if_neg hm]
      have hR : roundR id mode neg P Q = roundP id mode neg P Q := by unfold roundR; rw [if_pos hE]
      refine ⟨?_, hE, ?_⟩
      · by_cases h1 : mode = 1
        · left; simp [h1]
        · right
          refine ⟨by simp [h1], ?_⟩
          have : mode = 2 := Classical.byContradiction fun h => hm ⟨h1, h⟩
          simp [this]
      · rw [hR]
        unfold roundP
        by_cases h4 : fK id = 4 ∧ (neg = true ∨ P = 0)
        · rw [if_pos h4]
          have h4' : (fK id == 4) = true := by simp [h4.1]
          cases neg with
          | true => exact .inl ⟨h4', rfl, rfl⟩
          | false => exact .inr (.inl ⟨h4', rfl, decide_eq_true (hP.1 (by rcases h4.2 with h | h; exact absurd h (by decide); exact h)), rfl⟩)
        · rw [if_neg h4]
          right; right
          refine ⟨?_, ?_, ?_⟩
          · by_cases h : fK id = 4
            · left
              refine ⟨by simp [h], ?_, decide_eq_false fun h0 => h4 ⟨h, .inr (hP.2 h0)⟩⟩
              cases neg with
              | true => exact absurd ⟨h, .inl rfl⟩ h4
              | false => rfl
            · right; simp [h]
          · unfold mostE
            rw [if_neg hid, if_neg (fun h => h4 ⟨h.2, .inl h.1⟩)]
          · cases ho : overB id neg P Q with
            | true => left; exact ⟨rfl, by rw [if_pos rfl]⟩
            | false =>
              right
              refine ⟨rfl, ?_, by rw [if_neg (by decide)]⟩
              unfold nearV
              rw [ho, if_neg (by decide)]
theorem expP_zero (N : Nat) (t f : Int) : exP N t f = 0 ↔ N = 0 := by
  constructor
  · intro h0
    rcases Nat.eq_zero_or_pos N with h3 | h3
    · exact h3
    · have := exP_pos t f h3; omega
  · intro h0; rw [h0]; exact exP_zero t f
set_option maxRecDepth 100000 in
set_option maxHeartbeats 4000000 in
theorem rround_any (id mode : Int) (neg : Bool) {A : Option Addr} {n c N : Nat} (t f : Int) {w : World} (hW : VaW w) (h : IsT w (.slice A n c) 128 N) (ht : -5000 ≤ t ∧ t ≤ 5000) (hf : -5000 ≤ f ∧ f ≤ 5000) :
    Calls Tryz.prog 36 #[.int .i64 id, .int .i64 mode, .agg #[.bool neg, .slice A n c, .int .i64 t, .int .i64 f]] w fun e w' => e = .returned (.tuple #[.int .u64 (roundR id mode neg (exP N t f) (exQ t f)), .int .i64 (roundE id mode)]) ∧ Below w.heap.size w w' := by
  have hcs := round_cases id mode neg (exP N t f) (exQ t f) N (expP_zero N t f)
  have hnr := Lib.hid (fun (he : mostE id neg = 0) (W : World) (hW : VaW W) (hv : IsT W (.slice A n c) 128 N) => nearest_any id neg he t f hW hv ht hf)
  have hlg := Lib.hid (fun (he : mostE id neg = 0) (W : World) (hW : VaW W) => rlarge_any id mode neg he W hW)
  have hpt := Lib.hid (fun (he : mostE id neg = 0) (W : World) (hW : VaW W) => vpat_any id neg (nearK id neg (exP N t f) (exQ t f) : Nat) he (by omega) (nearK_le id neg _ _) W hW)
  have hrt := Lib.hid (fun (W : World) (hv : IsT W (.slice A n c) 128 N) => xright_yes neg t f hv ht hf)
  have hzr := Lib.hid (fun (W : World) (hv : IsT W (.slice A n c) 128 N) => rzero_any neg t f hv)
  generalize exP N t f = P at hcs hnr hpt ⊢
  generalize exQ t f = Q at hcs hnr hpt ⊢
  have hb0 := (Below.refl w.heap.size w).alloc (Nat.le_refl _) (.cells #[.bool neg, .slice A n c, .int .i64 t, .int .i64 f] 71)
  have hL := (((LiveP.start w).go hb0).put (pBlk_st _ _ _) (pBlk_made w #[.bool neg, .slice A n c, .int .i64 t, .int .i64 f] 71)).put (pT_st (.slice A n c) 128 N) (h.below hb0)
  clear h hb0
  rcases hcs with ⟨hid, hE, hR⟩ | ⟨h1, h2, hcs⟩
  · rw [hE, hR]
    have hfn := Lib.hid (fun w => fo_none id w hid)
    clear hid hE hR hnr hlg hpt hrt hzr
    go_enter Tryz.func36, Tryz.ntmps36
    go_wp2_with fail
    refine (hfn.out _).mono ?_
    rintro e u1 ⟨rfl, hb1⟩
    go_wp2
    go_ret2
    exact ⟨rfl, ((hL.go hb1).go ((Below.refl _ _).alloc (Nat.le_refl _) _)).below⟩
  · have hfo := Lib.hid (fun (W : World) (hW : VaW W) => fo_of id W hW.frm h1 h2)
    rcases hcs with ⟨m1, m2, hE, hR⟩ | ⟨hmd, hE, hcs⟩
    · rw [hE, hR]
      clear hE hR hnr hlg hpt hzr
      go_enter Tryz.func36, Tryz.ntmps36
      go_wp2_with fail
      refine (hfo.out _ (hW.below hL.below)).mono ?_
      rintro e u1 ⟨rfl, hb1⟩
      go_wp2
      go_ret2
      exact ⟨rfl, ((hL.go hb1).go ((Below.refl _ _).alloc (Nat.le_refl _) _)).below⟩
    · rw [hE]
      clear hE
      rcases hcs with ⟨k4, rfl, hR⟩ | ⟨k4, rfl, hz, hR⟩ | ⟨hk, hmo, hcs⟩
      · rw [hR]
        clear hR hnr hlg hpt hzr
        rcases hmd with m1 | ⟨m1, m2⟩
        all_goals
          go_enter Tryz.func36, Tryz.ntmps36
          go_wp2_with fail
          refine (hfo.out _ (hW.below hL.below)).mono ?_
          rintro e u1 ⟨rfl, hb1⟩
          replace hL := (hL.go hb1).go ((Below.refl _ _).alloc (Nat.le_refl _) (.cells #[.int .i64 (fK id), .int .i64 (fW id), .int .i64 (fM id), .int .i64 (fB id), .int .u64 (fT id), .int .u64 (fI id), .int .u64 (fN id)] 58))
          obtain ⟨r0, r1, r2, r3⟩ := cells4 (hL.get (P := pBlk w.heap.size #[.bool true, .slice A n c, .int .i64 t, .int .i64 f] 71) (by repeat (first | exact List.mem_cons_self | apply List.mem_cons_of_mem)))
          go_wp2_with fail
          refine (hrt.out _ (hL.get (P := pT (.slice A n c) 128 N) (by repeat (first | exact List.mem_cons_self | apply List.mem_cons_of_mem)))).mono ?_
          rintro e u2 ⟨rfl, hb2⟩
          have hq := pBlk_st _ _ _ _ _ (pBlk_made u1 #[.int .i64 (fK id), .int .i64 (fW id), .int .i64 (fM id), .int .i64 (fB id), .int .u64 (fT id), .int .u64 (fI id), .int .u64 (fN id)] 58) hb2
          replace hL := hL.go hb2
          clear r0 r1 r2 r3
          obtain ⟨r0, r1, r2, r3⟩ := cells4 (hL.get (P := pBlk w.heap.size #[.bool true, .slice A n c, .int .i64 t, .int .i64 f] 71) (by repeat (first | exact List.mem_cons_self | apply List.mem_cons_of_mem)))
          have q0 := hq.cell 0 _ rfl
          have q6 := hq.cell 6 _ rfl
          go_wp2
          go_ret2
          exact ⟨rfl, hL.below⟩
      · rw [hR]
        have hz' := Lib.hid hz
        clear hR hnr hlg hpt hz
        rcases hmd with m1 | ⟨m1, m2⟩
        all_goals
          skip
          go_enter Tryz.func36, Tryz.ntmps36
          go_wp2_with fail
          refine (hfo.out _ (hW.below hL.below)).mono ?_
          rintro e u1 ⟨rfl, hb1⟩
          replace hL := (hL.go hb1).go ((Below.refl _ _).alloc (Nat.le_refl _) (.cells #[.int .i64 (fK id), .int .i64 (fW id), .int .i64 (fM id), .int .i64 (fB id), .int .u64 (fT id), .int .u64 (fI id), .int .u64 (fN id)] 58))
          obtain ⟨r0, r1, r2, r3⟩ := cells4 (hL.get (P := pBlk w.heap.size #[.bool false, .slice A n c, .int .i64 t, .int .i64 f] 71) (by repeat (first | exact List.mem_cons_self | apply List.mem_cons_of_mem)))
          go_wp2_with fail
          refine (hrt.out _ (hL.get (P := pT (.slice A n c) 128 N) (by repeat (first | exact List.mem_cons_self | apply List.mem_cons_of_mem)))).mono ?_
          rintro e u2 ⟨rfl, hb2⟩
          have hq := pBlk_st _ _ _ _ _ (pBlk_made u1 #[.int .i64 (fK id), .int .i64 (fW id), .int .i64 (fM id), .int .i64 (fB id), .int .u64 (fT id), .int .u64 (fI id), .int .u64 (fN id)] 58) hb2
          replace hL := hL.go hb2
          clear r0 r1 r2 r3
          obtain ⟨r0, r1, r2, r3⟩ := cells4 (hL.get (P := pBlk w.heap.size #[.bool false, .slice A n c, .int .i64 t, .int .i64 f] 71) (by repeat (first | exact List.mem_cons_self | apply List.mem_cons_of_mem)))
          have q0 := hq.cell 0 _ rfl
          have q6 := hq.cell 6 _ rfl
          go_wp2_with fail
          refine (hzr.out _ (hL.get (P := pT (.slice A n c) 128 N) (by repeat (first | exact List.mem_cons_self | apply List.mem_cons_of_mem)))).mono ?_
          rintro e u3 ⟨rfl, hb3⟩
          rw [hz'.out]
          have hq3 := pBlk_st _ _ _ _ _ hq hb3
          replace hL := hL.go hb3
          clear r0 r1 r2 r3 q0 q6 hq
          have hq := hq3
          obtain ⟨r0, r1, r2, r3⟩ := cells4 (hL.get (P := pBlk w.heap.size #[.bool false, .slice A n c, .int .i64 t, .int .i64 f] 71) (by repeat (first | exact List.mem_cons_self | apply List.mem_cons_of_mem)))
          have q0 := hq.cell 0 _ rfl
          have q6 := hq.cell 6 _ rfl
          go_wp2
          go_ret2
          exact ⟨rfl, hL.below⟩
      · have hnr' := hnr.out hmo
        have hlg' := hlg.out hmo
        have hpt' := hpt.out hmo
        clear hnr hlg hpt hmo
        rcases hcs with ⟨ho, hR⟩ | ⟨ho, hn, hR⟩
        · rw [hR]
          rw [ho] at hnr'
          generalize nearV id neg P Q = nv at hnr'
          have hend := Lib.hid hlg'
          replace hnr' := Lib.hid hnr'
          clear hR ho hlg' hpt'
          rcases hk with ⟨k4, rfl, hz⟩ | k4
          · have hz' := Lib.hid hz
            clear hz
            rcases hmd with m1 | ⟨m1, m2⟩
            all_goals
              skip
              go_enter Tryz.func36, Tryz.ntmps36
              go_wp2_with fail
              refine (hfo.out _ (hW.below hL.below)).mono ?_
              rintro e u1 ⟨rfl, hb1⟩
              replace hL := (hL.go hb1).go ((Below.refl _ _).alloc (Nat.le_refl _) (.cells #[.int .i64 (fK id), .int .i64 (fW id), .int .i64 (fM id), .int .i64 (fB id), .int .u64 (fT id), .int .u64 (fI id), .int .u64 (fN id)] 58))
              obtain ⟨r0, r1, r2, r3⟩ := cells4 (hL.get (P := pBlk w.heap.size #[.bool false, .slice A n c, .int .i64 t, .int .i64 f] 71) (by repeat (first | exact List.mem_cons_self | apply List.mem_cons_of_mem)))
              go_wp2_with fail
              refine (hrt.out _ (hL.get (P := pT (.slice A n c) 128 N) (by repeat (first | exact List.mem_cons_self | apply List.mem_cons_of_mem)))).mono ?_
              rintro e u2 ⟨rfl, hb2⟩
              have hq := pBlk_st _ _ _ _ _ (pBlk_made u1 #[.int .i64 (fK id), .int .i64 (fW id), .int .i64 (fM id), .int .i64 (fB id), .int .u64 (fT id), .int .u64 (fI id), .int .u64 (fN id)] 58) hb2
              replace hL := hL.go hb2
              clear r0 r1 r2 r3
              obtain ⟨r0, r1, r2, r3⟩ := cells4 (hL.get (P := pBlk w.heap.size #[.bool false, .slice A n c, .int .i64 t, .int .i64 f] 71) (by repeat (first | exact List.mem_cons_self | apply List.mem_cons_of_mem)))
              have q0 := hq.cell 0 _ rfl
              have q6 := hq.cell 6 _ rfl
              go_wp2_with fail
              refine (hzr.out _ (hL.get (P := pT (.slice A n c) 128 N) (by repeat (first | exact List.mem_cons_self | apply List.mem_cons_of_mem)))).mono ?_
              rintro e u3 ⟨rfl, hb3⟩
              rw [hz'.out]
              have hq3 := pBlk_st _ _ _ _ _ hq hb3
              replace hL := hL.go hb3
              clear r0 r1 r2 r3 q0 q6 hq
              have hq := hq3
              obtain ⟨r0, r1, r2, r3⟩ := cells4 (hL.get (P := pBlk w.heap.size #[.bool false, .slice A n c, .int .i64 t, .int .i64 f] 71) (by repeat (first | exact List.mem_cons_self | apply List.mem_cons_of_mem)))
              have q0 := hq.cell 0 _ rfl
              have q6 := hq.cell 6 _ rfl
              go_wp2_with fail
              refine (hnr'.out _ (hW.below hL.below) (hL.get (P := pT (.slice A n c) 128 N) (by repeat (first | exact List.mem_cons_self | apply List.mem_cons_of_mem)))).mono ?_
              rintro e u4 ⟨rfl, hb4⟩
              replace hq := pBlk_st _ _ _ _ _ hq hb4
              replace hL := hL.go hb4
              clear r0 r1 r2 r3 q0 q6
              obtain ⟨r0, r1, r2, r3⟩ := cells4 (hL.get (P := pBlk w.heap.size #[.bool false, .slice A n c, .int .i64 t, .int .i64 f] 71) (by repeat (first | exact List.mem_cons_self | apply List.mem_cons_of_mem)))
              have q0 := hq.cell 0 _ rfl
              have q1 := hq.cell 1 _ rfl
              have q2 := hq.cell 2 _ rfl
              have q3 := hq.cell 3 _ rfl
              have q4 := hq.cell 4 _ rfl
              have q5 := hq.cell 5 _ rfl
              have q6 := hq.cell 6 _ rfl
              go_wp2_with fail
              refine (hend.out _ (hW.below hL.below)).mono ?_
              rintro e u5 ⟨rfl, hb5⟩
              go_wp2
              go_ret2
              exact ⟨rfl, (hL.go hb5).below⟩
          · rcases hmd with m1 | ⟨m1, m2⟩
            all_goals
              skip
              go_enter Tryz.func36, Tryz.ntmps36
              go_wp2_with fail
              refine (hfo.out _ (hW.below hL.below)).mono ?_
              rintro e u1 ⟨rfl, hb1⟩
              replace hL := (hL.go hb1).go ((Below.refl _ _).alloc (Nat.le_refl _) (.cells #[.int .i64 (fK id), .int .i64 (fW id), .int .i64 (fM id), .int .i64 (fB id), .int .u64 (fT id), .int .u64 (fI id), .int .u64 (fN id)] 58))
              obtain ⟨r0, r1, r2, r3⟩ := cells4 (hL.get (P := pBlk w.heap.size #[.bool neg, .slice A n c, .int .i64 t, .int .i64 f] 71) (by repeat (first | exact List.mem_cons_self | apply List.mem_cons_of_mem)))
              go_wp2_with fail
              refine (hrt.out _ (hL.get (P := pT (.slice A n c) 128 N) (by repeat (first | exact List.mem_cons_self | apply List.mem_cons_of_mem)))).mono ?_
              rintro e u2 ⟨rfl, hb2⟩
              have hq := pBlk_st _ _ _ _ _ (pBlk_made u1 #[.int .i64 (fK id), .int .i64 (fW id), .int .i64 (fM id), .int .i64 (fB id), .int .u64 (fT id), .int .u64 (fI id), .int .u64 (fN id)] 58) hb2
              replace hL := hL.go hb2
              clear r0 r1 r2 r3
              obtain ⟨r0, r1, r2, r3⟩ := cells4 (hL.get (P := pBlk w.heap.size #[.bool neg, .slice A n c, .int .i64 t, .int .i64 f] 71) (by repeat (first | exact List.mem_cons_self | apply List.mem_cons_of_mem)))
              have q0 := hq.cell 0 _ rfl
              have q6 := hq.cell 6 _ rfl
              go_wp2_with fail
              refine (hnr'.out _ (hW.below hL.below) (hL.get (P := pT (.slice A n c) 128 N) (by repeat (first | exact List.mem_cons_self | apply List.mem_cons_of_mem)))).mono ?_
              rintro e u4 ⟨rfl, hb4⟩
              replace hq := pBlk_st _ _ _ _ _ hq hb4
              replace hL := hL.go hb4
              clear r0 r1 r2 r3 q0 q6
              obtain ⟨r0, r1, r2, r3⟩ := cells4 (hL.get (P := pBlk w.heap.size #[.bool neg, .slice A n c, .int .i64 t, .int .i64 f] 71) (by repeat (first | exact List.mem_cons_self | apply List.mem_cons_of_mem)))
              have q0 := hq.cell 0 _ rfl
              have q1 := hq.cell 1 _ rfl
              have q2 := hq.cell 2 _ rfl
              have q3 := hq.cell 3 _ rfl
              have q4 := hq.cell 4 _ rfl
              have q5 := hq.cell 5 _ rfl
              have q6 := hq.cell 6 _ rfl
              go_wp2_with fail
              refine (hend.out _ (hW.below hL.below)).mono ?_
              rintro e u5 ⟨rfl, hb5⟩
              go_wp2
              go_ret2
              exact ⟨rfl, (hL.go hb5).below⟩
        · rw [hR]
          rw [ho, hn] at hnr'
          generalize ((nearK id neg P Q : Nat) : Int) = nv at hnr' hpt' ⊢
          have hend := Lib.hid hpt'
          replace hnr' := Lib.hid hnr'
          clear hR ho hn hlg' hpt'
          rcases hk with ⟨k4, rfl, hz⟩ | k4
          · have hz' := Lib.hid hz
            clear hz
            rcases hmd with m1 | ⟨m1, m2⟩
            all_goals
              skip
              go_enter Tryz.func36, Tryz.ntmps36
              go_wp2_with fail
              refine (hfo.out _ (hW.below hL.below)).mono ?_
              rintro e u1 ⟨rfl, hb1⟩
              replace hL := (hL.go hb1).go ((Below.refl _ _).alloc (Nat.le_refl _) (.cells #[.int .i64 (fK id), .int .i64 (fW id), .int .i64 (fM id), .int .i64 (fB id), .int .u64 (fT id), .int .u64 (fI id), .int .u64 (fN id)] 58))
              obtain ⟨r0, r1, r2, r3⟩ := cells4 (hL.get (P := pBlk w.heap.size #[.bool false, .slice A n c, .int .i64 t, .int .i64 f] 71) (by repeat (first | exact List.mem_cons_self | apply List.mem_cons_of_mem)))
              go_wp2_with fail
              refine (hrt.out _ (hL.get (P := pT (.slice A n c) 128 N) (by repeat (first | exact List.mem_cons_self | apply List.mem_cons_of_mem)))).mono ?_
              rintro e u2 ⟨rfl, hb2⟩
              have hq := pBlk_st _ _ _ _ _ (pBlk_made u1 #[.int .i64 (fK id), .int .i64 (fW id), .int .i64 (fM id), .int .i64 (fB id), .int .u64 (fT id), .int .u64 (fI id), .int .u64 (fN id)] 58) hb2
              replace hL := hL.go hb2
              clear r0 r1 r2 r3
              obtain ⟨r0, r1, r2, r3⟩ := cells4 (hL.get (P := pBlk w.heap.size #[.bool false, .slice A n c, .int .i64 t, .int .i64 f] 71) (by repeat (first | exact List.mem_cons_self | apply List.mem_cons_of_mem)))
              have q0 := hq.cell 0 _ rfl
              have q6 := hq.cell 6 _ rfl
              go_wp2_with fail
              refine (hzr.out _ (hL.get (P := pT (.slice A n c) 128 N) (by repeat (first | exact List.mem_cons_self | apply List.mem_cons_of_mem)))).mono ?_
              rintro e u3 ⟨rfl, hb3⟩
              rw [hz'.out]
              have hq3 := pBlk_st _ _ _ _ _ hq hb3
              replace hL := hL.go hb3
              clear r0 r1 r2 r3 q0 q6 hq
              have hq := hq3
              obtain ⟨r0, r1, r2, r3⟩ := cells4 (hL.get (P := pBlk w.heap.size #[.bool false, .slice A n c, .int .i64 t, .int .i64 f] 71) (by repeat (first | exact List.mem_cons_self | apply List.mem_cons_of_mem)))
              have q0 := hq.cell 0 _ rfl
              have q6 := hq.cell 6 _ rfl
              go_wp2_with fail
              refine (hnr'.out _ (hW.below hL.below) (hL.get (P := pT (.slice A n c) 128 N) (by repeat (first | exact List.mem_cons_self | apply List.mem_cons_of_mem)))).mono ?_
              rintro e u4 ⟨rfl, hb4⟩
              replace hq := pBlk_st _ _ _ _ _ hq hb4
              replace hL := hL.go hb4
              clear r0 r1 r2 r3 q0 q6
              obtain ⟨r0, r1, r2, r3⟩ := cells4 (hL.get (P := pBlk w.heap.size #[.bool false, .slice A n c, .int .i64 t, .int .i64 f] 71) (by repeat (first | exact List.mem_cons_self | apply List.mem_cons_of_mem)))
              have q0 := hq.cell 0 _ rfl
              have q1 := hq.cell 1 _ rfl
              have q2 := hq.cell 2 _ rfl
              have q3 := hq.cell 3 _ rfl
              have q4 := hq.cell 4 _ rfl
              have q5 := hq.cell 5 _ rfl
              have q6 := hq.cell 6 _ rfl
              go_wp2_with fail
              refine (hend.out _ (hW.below hL.below)).mono ?_
              rintro e u5 ⟨rfl, hb5⟩
              go_wp2
              go_ret2
              exact ⟨rfl, (hL.go hb5).below⟩
          · rcases hmd with m1 | ⟨m1, m2⟩
            all_goals
              skip
              go_enter Tryz.func36, Tryz.ntmps36
              go_wp2_with fail
              refine (hfo.out _ (hW.below hL.below)).mono ?_
              rintro e u1 ⟨rfl, hb1⟩
              replace hL := (hL.go hb1).go ((Below.refl _ _).alloc (Nat.le_refl _) (.cells #[.int .i64 (fK id), .int .i64 (fW id), .int .i64 (fM id), .int .i64 (fB id), .int .u64 (fT id), .int .u64 (fI id), .int .u64 (fN id)] 58))
              obtain ⟨r0, r1, r2, r3⟩ := cells4 (hL.get (P := pBlk w.heap.size #[.bool neg, .slice A n c, .int .i64 t, .int .i64 f] 71) (by repeat (first | exact List.mem_cons_self | apply List.mem_cons_of_mem)))
              go_wp2_with fail
              refine (hrt.out _ (hL.get (P := pT (.slice A n c) 128 N) (by repeat (first | exact List.mem_cons_self | apply List.mem_cons_of_mem)))).mono ?_
              rintro e u2 ⟨rfl, hb2⟩
              have hq := pBlk_st _ _ _ _ _ (pBlk_made u1 #[.int .i64 (fK id), .int .i64 (fW id), .int .i64 (fM id), .int .i64 (fB id), .int .u64 (fT id), .int .u64 (fI id), .int .u64 (fN id)] 58) hb2
              replace hL := hL.go hb2
              clear r0 r1 r2 r3
              obtain ⟨r0, r1, r2, r3⟩ := cells4 (hL.get (P := pBlk w.heap.size #[.bool neg, .slice A n c, .int .i64 t, .int .i64 f] 71) (by repeat (first | exact List.mem_cons_self | apply List.mem_cons_of_mem)))
              have q0 := hq.cell 0 _ rfl
              have q6 := hq.cell 6 _ rfl
              go_wp2_with fail
              refine (hnr'.out _ (hW.below hL.below) (hL.get (P := pT (.slice A n c) 128 N) (by repeat (first | exact List.mem_cons_self | apply List.mem_cons_of_mem)))).mono ?_
              rintro e u4 ⟨rfl, hb4⟩
              replace hq := pBlk_st _ _ _ _ _ hq hb4
              replace hL := hL.go hb4
              clear r0 r1 r2 r3 q0 q6
              obtain ⟨r0, r1, r2, r3⟩ := cells4 (hL.get (P := pBlk w.heap.size #[.bool neg, .slice A n c, .int .i64 t, .int .i64 f] 71) (by repeat (first | exact List.mem_cons_self | apply List.mem_cons_of_mem)))
              have q0 := hq.cell 0 _ rfl
              have q1 := hq.cell 1 _ rfl
              have q2 := hq.cell 2 _ rfl
              have q3 := hq.cell 3 _ rfl
              have q4 := hq.cell 4 _ rfl
              have q5 := hq.cell 5 _ rfl
              have q6 := hq.cell 6 _ rfl
              go_wp2_with fail
              refine (hend.out _ (hW.below hL.below)).mono ?_
              rintro e u5 ⟨rfl, hb5⟩
              go_wp2
              go_ret2
              exact ⟨rfl, (hL.go hb5).below⟩
end Go.Proofs.YtncfbleeidjflaaGreatDoor
namespace Go.Proofs.YtncfbleeidjflaaGreatDoor
open Go.RowKit Go.Cal
theorem cells7R {w : World} {g : Nat} {t : TypeId} {a b c d e f h : Value} (hp : pBlk g #[a, b, c, d, e, f, h] t w) : w.cell? ⟨g, 0, none⟩ = some a ∧ w.cell? ⟨g, 1, none⟩ = some b ∧ w.cell? ⟨g, 2, none⟩ = some c ∧ w.cell? ⟨g, 3, none⟩ = some d ∧ w.cell? ⟨g, 4, none⟩ = some e ∧ w.cell? ⟨g, 5, none⟩ = some f ∧ w.cell? ⟨g, 6, none⟩ = some h :=
  ⟨hp.cell 0 _ rfl, hp.cell 1 _ rfl, hp.cell 2 _ rfl, hp.cell 3 _ rfl, hp.cell 4 _ rfl, hp.cell 5 _ rfl, hp.cell 6 _ rfl⟩
theorem kind_two (id : Int) : ((fK id == 4) = true ∧ (fK id == 3) = false) ∨ ((fK id == 4) = false ∧ (fK id == 3) = true) ∨ ((fK id == 4) = false ∧ (fK id == 3) = false) := by
  by_cases h4 : fK id = 4
  · left; simp [h4]
  · by_cases h3 : fK id = 3
    · right; left; simp [h3]
    · right; right; simp [h3, h4]
set_option maxRecDepth 100000 in
set_option maxHeartbeats 2000000 in
theorem rmost7_yes (id : Int) (neg : Bool) (he : mostE id neg = 0) (w : World) : Calls Tryz.prog 168 #[.int .i64 id, .bool neg] w fun e w' => e = .returned (.tuple #[.int .u64 (mostV id neg), .int .i64 0]) ∧ Below w.heap.size w w' := by
  obtain ⟨h1, h2, h3⟩ := mostE_zero he
  have hof := Lib.hid (rof_yes id w h1 h2)
  have hft := ft_bounds id
  have hfp : fT id < 18446744073709551615 := by rcases id_cases h1 h2 with rfl | rfl | rfl | rfl | rfl | rfl | rfl | rfl | rfl | rfl | rfl | rfl | rfl | rfl <;> decide
  have hk := kind_two id
  cases neg
  · have hm : mostV id false = fT id := by simp [mostV]
    rw [hm]
    rcases hk with ⟨k4, k3⟩ | ⟨k4, k3⟩ | ⟨k4, k3⟩
    all_goals
      clear hm he h3
      go_enter Tryz.func168, Tryz.ntmps168
      go_wp2_with fail
      refine hof.out.mono ?_
      rintro e w1 ⟨rfl, hb1⟩
      have hB1 := hb1.trans (((Below.refl w1.heap.size w1).alloc (Nat.le_refl _) (.cells #[.int .i64 (fK id), .int .i64 (fW id), .int .i64 (fM id), .int .i64 (fB id), .int .u64 (fT id), .int .u64 (fI id), .int .u64 (fN id)] 73)).mono hb1.size)
      go_wp2
      go_ret2
      exact ⟨rfl, hB1⟩
  · rcases hk with ⟨k4, k3⟩ | ⟨k4, k3⟩ | ⟨k4, k3⟩
    · exact absurd (by simpa using k4) (h3 rfl)
    · have hm : mostV id true = fT id + 1 := by unfold mostV; rw [if_pos ⟨rfl, by simpa using k3⟩]
      rw [hm]
      clear hm he h3
      go_enter Tryz.func168, Tryz.ntmps168
      go_wp2_with fail
      refine hof.out.mono ?_
      rintro e w1 ⟨rfl, hb1⟩
      have hB1 := hb1.trans (((Below.refl w1.heap.size w1).alloc (Nat.le_refl _) (.cells #[.int .i64 (fK id), .int .i64 (fW id), .int .i64 (fM id), .int .i64 (fB id), .int .u64 (fT id), .int .u64 (fI id), .int .u64 (fN id)] 73)).mono hb1.size)
      go_wp2
      go_ret2
      exact ⟨rfl, hB1⟩
    · have hm : mostV id true = fT id := by
        unfold mostV
        rw [if_neg (by rintro ⟨-, x⟩; rw [x] at k3; simp at k3)]
      rw [hm]
      clear hm he h3
      go_enter Tryz.func168, Tryz.ntmps168
      go_wp2_with fail
      refine hof.out.mono ?_
      rintro e w1 ⟨rfl, hb1⟩
      have hB1 := hb1.trans (((Below.refl w1.heap.size w1).alloc (Nat.le_refl _) (.cells #[.int .i64 (fK id), .int .i64 (fW id), .int .i64 (fM id), .int .i64 (fB id), .int .u64 (fT id), .int .u64 (fI id), .int .u64 (fN id)] 73)).mono hb1.size)
      go_wp2
      go_ret2
      exact ⟨rfl, hB1⟩
theorem formr_size : (Tryz.prog.info? 73).map (·.size) = some 7 := by kernel_rfl
set_option maxRecDepth 100000 in
set_option maxHeartbeats 4000000 in
theorem rfits7_yes (id : Int) (h1 : 1 ≤ id) (h2 : id < 15) (key : Nat) (hk : (key : Int) ≤ fitM id) (w : World) : Calls Tryz.prog 212 #[.int .i64 id, .int .u64 (key : Nat)] w fun e w' => e = .returned (.tuple #[.agg #[.int .i64 (fK id), .int .i64 (fW id), .int .i64 (fM id), .int .i64 (fB id), .int .u64 (fT id), .int .u64 (fI id), .int .u64 (fN id)], .int .i64 0]) ∧ Below w.heap.size w w' := by
  have hof := Lib.hid fun w => rof_yes id w h1 h2
  have hft := ft_bounds id
  have hfp : fT id < 18446744073709551615 := by rcases id_cases h1 h2 with rfl | rfl | rfl | rfl | rfl | rfl | rfl | rfl | rfl | rfl | rfl | rfl | rfl | rfl <;> decide
  have hcase : (¬ fT id < (key : Int)) ∨ (fT id < (key : Int) ∧ (fK id != 3) = false ∧ ¬ fT id + 1 < (key : Int)) := by
    by_cases hle : fT id < (key : Int)
    · right
      unfold fitM at hk
      split at hk
      · rename_i h3; exact ⟨hle, by simp [h3], by omega⟩
      · omega
    · exact .inl hle
  have hb0 := (Below.refl w.heap.size w).alloc (Nat.le_refl _) (.cells #[.int .i64 0, .int .i64 0, .int .i64 0, .int .i64 0, .int .u64 0, .int .u64 0, .int .u64 0] 73)
  have hr0 := pBlk_made w #[.int .i64 0, .int .i64 0, .int .i64 0, .int .i64 0, .int .u64 0, .int .u64 0, .int .u64 0] 73
  clear hk
  rcases hcase with a1 | ⟨a1, a2, a3⟩
  all_goals
    go_enter Tryz.func212, Tryz.ntmps212
    go_wp2_with fail
    refine (hof.out _).mono ?_
    rintro e w1 ⟨rfl, hb⟩
    have hal := (Below.refl w1.heap.size w1).alloc (Nat.le_refl _) (.cells #[.int .i64 (fK id), .int .i64 (fW id), .int .i64 (fM id), .int .i64 (fB id), .int .u64 (fT id), .int .u64 (fI id), .int .u64 (fN id)] 73)
    have hr2 := pBlk_st _ _ _ _ _ (pBlk_st _ _ _ _ _ hr0 hb) hal
    have hB2 := (hb0.trans (hb.mono hb0.size)).trans (hal.mono (Nat.le_trans hb0.size hb.size))
    clear hal hb hb0 hr0
    go_wp2_with (first | ((with_reducible show wpList _ _ _ (Oper.mk _ (Op.store 73 _ _) _ _ _ _ :: _) _ _); refine wpList_store_whole _ rfl 73 _ _ rfl w.heap.size #[.int .i64 (fK id), .int .i64 (fW id), .int .i64 (fM id), .int .i64 (fB id), .int .u64 (fT id), .int .u64 (fI id), .int .u64 (fN id)] #[.int .i64 0, .int .i64 0, .int .i64 0, .int .i64 0, .int .u64 0, .int .u64 0, .int .u64 0] 73 rfl rfl hr2 formr_size rfl (by simp [Value.oneCell']) ?_; intro w3 hp3 hb3 hz3))
    replace hp3 : pBlk w.heap.size #[.int .i64 (fK id), .int .i64 (fW id), .int .i64 (fM id), .int .i64 (fB id), .int .u64 (fT id), .int .u64 (fI id), .int .u64 (fN id)] 73 w3 := hp3
    obtain ⟨r0, r1, r2, r3, r4, r5, r6⟩ := cells7R hp3
    exact bodyPost_ret (v := .tuple #[.agg #[.int .i64 (fK id), .int .i64 (fW id), .int .i64 (fM id), .int .i64 (fB id), .int .u64 (fT id), .int .u64 (fI id), .int .u64 (fN id)], .int .i64 0]) (by simp [results, Tryz.results212, go_sem, r0, r1, r2, r3, r4, r5, r6]) rfl ⟨rfl, hB2.trans hb3⟩
end Go.Proofs.YtncfbleeidjflaaGreatDoor
namespace Go.Proofs.YtncfbleeidjflaaGreatDoor
open Go.RowKit Go.Cal
set_option maxRecDepth 100000 in
set_option maxHeartbeats 4000000 in
theorem rbetw7_any (id : Int) (h1 : 1 ≤ id) (h2 : id < 15) (key : Nat) (hk : (key : Int) ≤ fitM id) (w : World) :
    Calls Tryz.prog 195 #[.int .i64 id, .int .u64 (key : Nat)] w fun e w' => e = .returned (.tuple #[.int .u64 ((magV id 1 (2 * key + 1)).1 : Nat), .int .i64 (magV id 1 (2 * key + 1)).2, .int .i64 0]) ∧ Below w.heap.size w w' := by
  have hft := Lib.hid (rfits7_yes id h1 h2 key hk w)
  obtain ⟨w1, w2, w3, w4, e1, e2, e3⟩ := fo_wide h1 h2
  obtain ⟨-, kw, k1, k2, k4⟩ := mag_half h1 h2 hk
  have hKc : fK id = 1 ∨ fK id = 2 ∨ fK id = 3 ∨ fK id = 4 := by have := fK_bnd id; omega
  have hcast : ((2 * key + 1 : Nat) : Int) = 2 * (key : Int) + 1 := by push_cast; rfl
  clear hk
  rcases hKc with hK | hK | hK | hK
  · have b1 : (fK id == 1) = true := by simp [hK]
    obtain ⟨n, hn⟩ : ∃ n, (fW id).toNat + 1 - 1 = n := ⟨_, rfl⟩
    have hkk := k1 hK
    rw [hn] at hkk
    have hv : magV id 1 (2 * key + 1) = oddP 64 (poF (poL n (2 * key + 1)) ((2 * key + 1) % 2 ^ poL n (2 * key + 1))) (4 * poR n (2 * key + 1) + poE (poL n (2 * key + 1)) ((2 * key + 1) % 2 ^ poL n (2 * key + 1)) - (poL n (2 * key + 1) - 2 : Nat)) := by
      unfold magV numQ
      rw [hK, hn]
      rfl
    have h5 := fun w => rval5_any n (2 * key + 1) (by omega) (by omega) hkk.1 hkk.2 w
    have hnw : (n : Int) = fW id := by omega
    rw [← hv, hcast, hnw] at h5
    obtain ⟨⟨mv, ev⟩, hP⟩ : ∃ p, magV id 1 (2 * key + 1) = p := ⟨_, rfl⟩
    rw [hP] at h5 ⊢
    replace h5 := Lib.hid h5
    have hwb : fW id ≤ 64 ∧ 4 ≤ fW id := by omega
    obtain ⟨hwb1, hwb2⟩ := hwb
    clear hv hP hnw hn hkk k1 k2 k4 hK hcast e1 e2 e3 w1 w2 w3 w4 h1 h2
    go_enter Tryz.func195, Tryz.ntmps195
    go_wp2_with fail
    refine hft.out.mono ?_
    rintro e w1 ⟨rfl, hb1⟩
    have hB1 := hb1.trans (((Below.refl w1.heap.size w1).alloc (Nat.le_refl _) (.cells #[.int .i64 (fK id), .int .i64 (fW id), .int .i64 (fM id), .int .i64 (fB id), .int .u64 (fT id), .int .u64 (fI id), .int .u64 (fN id)] 73)).mono hb1.size)
    clear hft hb1
    go_wp2_with fail
    refine (h5.out _).mono ?_
    rintro e w2 ⟨rfl, hb2⟩
    have hB2 := hB1.trans (hb2.mono hB1.size)
    go_wp2
    exact bodyPost_ret (v := .tuple #[.int .u64 (mv : Nat), .int .i64 ev, .int .i64 0]) (by simp [results, Tryz.results195, go_sem]) rfl ⟨rfl, hB2⟩
  · have b1 : (fK id == 1) = false := by simp [hK]
    have b2 : (fK id == 2) = true := by simp [hK]
    have hv : magV id 1 (2 * key + 1) = oddP 64 (miM ((fM id).toNat + 1) (2 * key + 1)) ((miE ((fM id).toNat + 1) (2 * key + 1) : Int) - (fB id).toNat - ((fM id).toNat + 1 : Nat)) := by
      unfold magV numQ
      rw [hK]
      rfl
    have h6 := fun w => rval6_any ((fM id).toNat + 1) (fB id).toNat (2 * key + 1) (by omega) (by omega) kw (k2 hK) w
    have hmm : (((fM id).toNat + 1 : Nat) : Int) = fM id + 1 := by omega
    rw [← hv, hcast, hmm, ← e3] at h6
    obtain ⟨⟨mv, ev⟩, hP⟩ : ∃ p, magV id 1 (2 * key + 1) = p := ⟨_, rfl⟩
    rw [hP] at h6 ⊢
    replace h6 := Lib.hid h6
    have hwb : fM id ≤ 64 ∧ 0 ≤ fM id := by omega
    obtain ⟨hwb1, hwb2⟩ := hwb
    clear hv hP hmm k1 k2 k4 hK hcast e1 e2 e3 w1 w2 w3 w4 h1 h2
    go_enter Tryz.func195, Tryz.ntmps195
    go_wp2_with fail
    refine hft.out.mono ?_
    rintro e w1 ⟨rfl, hb1⟩
    have hB1 := hb1.trans (((Below.refl w1.heap.size w1).alloc (Nat.le_refl _) (.cells #[.int .i64 (fK id), .int .i64 (fW id), .int .i64 (fM id), .int .i64 (fB id), .int .u64 (fT id), .int .u64 (fI id), .int .u64 (fN id)] 73)).mono hb1.size)
    clear hft hb1
    go_wp2_with fail
    refine (h6.out _).mono ?_
    rintro e w2 ⟨rfl, hb2⟩
    have hB2 := hB1.trans (hb2.mono hB1.size)
    go_wp2
    exact bodyPost_ret (v := .tuple #[.int .u64 (mv : Nat), .int .i64 ev, .int .i64 0]) (by simp [results, Tryz.results195, go_sem]) rfl ⟨rfl, hB2⟩
  · have b1 : (fK id == 1) = false := by simp [hK]
    have b2 : (fK id == 2) = false := by simp [hK]
    have b3 : (fK id == 3) = true := by simp [hK]
    have hv : magV id 1 (2 * key + 1) = (2 * key + 1, -(fM id) - 1) := by
      unfold magV numQ
      rw [hK]
      show oddP 64 (2 * key + 1) (-(((fM id).toNat + 1 : Nat) : Int)) = _
      rw [oddP_odd _ _ _ (by omega)]
      congr 1
      omega
    rw [hv]
    have hwb : fM id ≤ 64 ∧ 0 ≤ fM id := by omega
    obtain ⟨hwb1, hwb2⟩ := hwb
    clear hv k1 k2 k4 hK hcast e1 e2 e3 w1 w2 w3 w4 h1 h2
    go_enter Tryz.func195, Tryz.ntmps195
    go_wp2_with fail
    refine hft.out.mono ?_
    rintro e w1 ⟨rfl, hb1⟩
    have hB1 := hb1.trans (((Below.refl w1.heap.size w1).alloc (Nat.le_refl _) (.cells #[.int .i64 (fK id), .int .i64 (fW id), .int .i64 (fM id), .int .i64 (fB id), .int .u64 (fT id), .int .u64 (fI id), .int .u64 (fN id)] 73)).mono hb1.size)
    clear hft hb1
    go_wp2_with fail
    go_quiet (fail)
    go_wp2
    exact bodyPost_ret (v := .tuple #[.int .u64 ((2 * key + 1 : Nat) : Int), .int .i64 (-(fM id) - 1), .int .i64 0]) (by simp [results, Tryz.results195, go_sem]) rfl ⟨rfl, hB1.trans ⟨rfl, rfl, rfl, Nat.le_refl _, fun _ _ => rfl⟩⟩
  · have b1 : (fK id == 1) = false := by simp [hK]
    have b2 : (fK id == 2) = false := by simp [hK]
    have b3 : (fK id == 3) = false := by simp [hK]
    have hk4 := k4 hK
    have hv : magV id 1 (2 * key + 1) = (3, (key : Int) - fB id - 1) := by
      unfold magV numQ
      rw [hK]
      show oddP 64 (1 + 2 * 1) ((((2 * key + 1) / 2 ^ 1 : Nat) : Int) - ((fB id).toNat : Int) - ((1 : Nat) : Int)) = _
      rw [oddP_odd _ _ _ (by omega), show (2 * key + 1) / 2 ^ 1 = key by omega]
      congr 1
      omega
    rw [hv]
    have hwb : fB id ≤ 2000 ∧ 0 ≤ fB id := by omega
    obtain ⟨hwb1, hwb2⟩ := hwb
    have hkb : key < 10000 := by omega
    clear hv k1 k2 k4 hK hcast e1 e2 e3 w1 w2 w3 w4 h1 h2 hk4
    go_enter Tryz.func195, Tryz.ntmps195
    go_wp2_with fail
    refine hft.out.mono ?_
    rintro e w1 ⟨rfl, hb1⟩
    have hB1 := hb1.trans (((Below.refl w1.heap.size w1).alloc (Nat.le_refl _) (.cells #[.int .i64 (fK id), .int .i64 (fW id), .int .i64 (fM id), .int .i64 (fB id), .int .u64 (fT id), .int .u64 (fI id), .int .u64 (fN id)] 73)).mono hb1.size)
    clear hft hb1
    go_wp2_with fail
    go_quiet (fail)
    go_wp2
    exact bodyPost_ret (v := .tuple #[.int .u64 ((3 : Nat) : Int), .int .i64 ((key : Int) - fB id - 1), .int .i64 0]) (by simp [results, Tryz.results195, go_sem]) rfl ⟨rfl, hB1.trans ⟨rfl, rfl, rfl, Nat.le_refl _, fun _ _ => rfl⟩⟩
end Go.Proofs.YtncfbleeidjflaaGreatDoor
