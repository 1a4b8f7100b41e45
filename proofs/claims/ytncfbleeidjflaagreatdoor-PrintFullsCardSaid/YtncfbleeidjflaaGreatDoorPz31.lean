/- Exact numbers: Log10, walked. Conditions: none. -/
/- The shortest digits: ten, digits, walked. Conditions: none. -/
/- The shortest digits: is a number in an interval, walked. Conditions: none. -/
import Derived.Test.YtncfbleeidjflaaGreatDoorPz30
import Derived.Deep.LoopGhost
import Derived.Test.YtncfbleeidjflaaGreatDoorPz21
namespace Go.Proofs.YtncfbleeidjflaaGreatDoor
open Go.RowKit Go.Cal
theorem of_oneS (w : World) : Calls Tryz.prog 96 #[.int .u64 1] w fun e w' => ∃ A n c, e = .returned (.slice A n c) ∧ IsT w' (.slice A n c) 1 1 ∧ Below w.heap.size w w' :=
  (of_one w).mono fun e w' h => by
    obtain ⟨v, rfl, hv, hb⟩ := h
    obtain ⟨A, c, z, rfl, -⟩ := id hv
    exact ⟨A, _, c, rfl, hv, hb⟩
section
variable {w W W' : World} {neg : Bool} {A : Option Addr} {n c N : Nat} {t : Int}
theorem boxL (h : LiveP w W [pT (.slice A n c) 128 N, pBlk w.heap.size #[.bool neg, .slice A n c, .int .i64 t, .int .i64 0] 71]) : LiveP w W [pT (.slice A n c) 128 N, pBlk w.heap.size #[.bool neg, .slice A n c, .int .i64 t, .int .i64 0] 71] ∧ w.heap.size < (W).heap.size ∧ (W).cell? ⟨w.heap.size, 0, none⟩ = some (.bool neg) ∧ (W).cell? ⟨w.heap.size, 1, none⟩ = some (.slice A n c) ∧ (W).cell? ⟨w.heap.size, 2, none⟩ = some (.int .i64 t) ∧ (W).cell? ⟨w.heap.size, 3, none⟩ = some (.int .i64 0) := by
  have p1 := h.get (P := pBlk w.heap.size #[.bool neg, .slice A n c, .int .i64 t, .int .i64 0] 71) (by repeat (first | exact List.mem_cons_self | apply List.mem_cons_of_mem))
  exact ⟨h, p1.lt, p1.cell 0 _ rfl, p1.cell 1 _ rfl, p1.cell 2 _ rfl, p1.cell 3 _ rfl⟩
theorem keepL (h : LiveP w W [pT (.slice A n c) 128 N, pBlk w.heap.size #[.bool neg, .slice A n c, .int .i64 t, .int .i64 0] 71] ∧ w.heap.size < (W).heap.size ∧ (W).cell? ⟨w.heap.size, 0, none⟩ = some (.bool neg) ∧ (W).cell? ⟨w.heap.size, 1, none⟩ = some (.slice A n c) ∧ (W).cell? ⟨w.heap.size, 2, none⟩ = some (.int .i64 t) ∧ (W).cell? ⟨w.heap.size, 3, none⟩ = some (.int .i64 0)) (hb : Below W.heap.size W W') : LiveP w W' [pT (.slice A n c) 128 N, pBlk w.heap.size #[.bool neg, .slice A n c, .int .i64 t, .int .i64 0] 71] ∧ w.heap.size < (W').heap.size ∧ (W').cell? ⟨w.heap.size, 0, none⟩ = some (.bool neg) ∧ (W').cell? ⟨w.heap.size, 1, none⟩ = some (.slice A n c) ∧ (W').cell? ⟨w.heap.size, 2, none⟩ = some (.int .i64 t) ∧ (W').cell? ⟨w.heap.size, 3, none⟩ = some (.int .i64 0) := boxL (h.1.go hb)
theorem cmpL {A3 : Option Addr} {m3 c3 : Nat} {k : Int} (h : LiveP w W [pT (.slice A n c) 128 N, pBlk w.heap.size #[.bool neg, .slice A n c, .int .i64 t, .int .i64 0] 71] ∧ w.heap.size < (W).heap.size ∧ (W).cell? ⟨w.heap.size, 0, none⟩ = some (.bool neg) ∧ (W).cell? ⟨w.heap.size, 1, none⟩ = some (.slice A n c) ∧ (W).cell? ⟨w.heap.size, 2, none⟩ = some (.int .i64 t) ∧ (W).cell? ⟨w.heap.size, 3, none⟩ = some (.int .i64 0)) (hv : IsT W (.slice A3 m3 c3) 1 1) (ht : -5000 ≤ t ∧ t ≤ 5000) (hk : -5000 ≤ k ∧ k ≤ 5000) :
    Calls Tryz.prog 148 #[.agg #[.bool neg, .slice A n c, .int .i64 t, .int .i64 0], .agg #[.bool false, .slice A3 m3 c3, .int .i64 k, .int .i64 k]] W fun e w' => e = .returned (.int .i64 (exC N t 0 1 k k)) ∧ Below W.heap.size W w' :=
  xcmp_any neg false t k 0 k (h.1.get (P := pT (.slice A n c) 128 N) (by repeat (first | exact List.mem_cons_self | apply List.mem_cons_of_mem))) (isT_fitX hv (by decide +kernel)) ht hk ⟨by decide, by decide⟩ hk
end
theorem run_max4 (x : Int) (h : -2000 ≤ x ∧ x ≤ 2000) : ∃ mx : Int, (∀ (ts : Array TypeId) (ty : TypeId) (w : World), (Builtin.max_ ts ty #[.int .i64 x, .int .i64 (-x), .int .i64 0, .int .i64 0]).run Tryz.prog w = .ok (.int .i64 mx) w) ∧ 0 ≤ mx ∧ mx ≤ 2000 := by
  by_cases h0 : 0 ≤ x
  · refine ⟨x, fun ts ty w => ?_, h0, h.2⟩
    simp [Builtin.max_, Builtin.max2]
    repeat' split
    all_goals (first | rfl | omega | (simp; omega))
  · refine ⟨-x, fun ts ty w => ?_, by omega, by omega⟩
    simp [Builtin.max_, Builtin.max2]
    repeat' split
    all_goals (first | rfl | omega | (simp; omega))
set_option maxRecDepth 100000 in
set_option maxHeartbeats 2000000 in
theorem xlog_any {w : World} {A : Option Addr} {n c N : Nat} (neg : Bool) (t : Int) (h : IsT w (.slice A n c) 128 N) (h0 : 0 < N) (hN : N < 2 ^ 64) (ht : -2000 ≤ t ∧ t ≤ 2000) :
    Calls Tryz.prog 68 #[.agg #[.bool neg, .slice A n c, .int .i64 t, .int .i64 0]] w fun e w' => e = .returned (.int .i64 (lgV N t)) ∧ Below w.heap.size w w' := by
  have hb0 := (Below.refl w.heap.size w).alloc (Nat.le_refl _) (.cells #[.bool neg, .slice A n c, .int .i64 t, .int .i64 0] 71)
  have hL := (((LiveP.start w).go hb0).put (pBlk_st _ _ _) (pBlk_made w #[.bool neg, .slice A n c, .int .i64 t, .int .i64 0] 71)).put (pT_st (.slice A n c) 128 N) (h.below hb0)
  have hX := pBlk_made w #[.bool neg, .slice A n c, .int .i64 t, .int .i64 0] 71
  have hbl : ((blen N : Nat) : Int) ≠ 0 := by
    have := (blen_bnd h0).1
    intro h
    have h2 : blen N = 0 := by omega
    rw [h2] at this
    simp at this
    omega
  have hbl' : (((blen N : Nat) : Int) == 0) = false := by simpa using hbl
  obtain ⟨mx, hmx, hm0, hm1⟩ := run_max4 t ht
  have hmn : ¬ 20000 < mx := by omega
  obtain ⟨s, hs⟩ : ∃ s, exS (blen N) t 0 = s := ⟨_, rfl⟩
  have hsb : -2000 ≤ s ∧ s ≤ 2064 := by
    have hb : blen N ≤ 64 := by rw [blen_bl]; exact bl_iff.2 hN
    rw [← hs]; unfold exS; simp; omega
  obtain ⟨k0, hk0⟩ : ∃ k0, ((s + 6) * 30103).tdiv 100000 = k0 := ⟨_, rfl⟩
  have hlg : lgS N t = if 0 ≤ k0 then k0 + 1 else k0 := by
    unfold lgS; rw [← hk0, ← hs]; rfl
  have hlb := lgS_bnd hN ht
  have hk0b : -700 ≤ k0 ∧ k0 ≤ 700 := by
    rw [hlg] at hlb
    split at hlb <;> omega
  obtain ⟨R, hR⟩ : ∃ R, seekL N t 6000 (lgS N t) = R := ⟨_, rfl⟩
  have hRV : lgV N t = R := hR
  rw [hRV]
  obtain ⟨kx, hkx⟩ : ∃ kx, min t 0 = kx := ⟨_, rfl⟩
  obtain ⟨ht1, ht2⟩ := ht
  have hkx1 : -2000 ≤ kx ∧ kx ≤ t ∧ kx ≤ 0 := by omega
  obtain ⟨hkx1, hkx2, hkx3⟩ := hkx1
  obtain ⟨hsb1, hsb2⟩ := hsb
  obtain ⟨hk0b1, hk0b2⟩ := hk0b
  replace hlg := Lib.hid hlg
  replace hR := Lib.hid hR
  clear hlb hRV hkx
  go_enter Tryz.func68, Tryz.ntmps68
  go_wp2_with fail
  refine (bits_b (hL.get (P := pT (.slice A n c) 128 N) (by repeat (first | exact List.mem_cons_self | apply List.mem_cons_of_mem)))).mono ?_
  rintro e w1 ⟨rfl, hb⟩
  replace hL := hL.go hb
  clear hb hX
  obtain ⟨r0, r1, r2, r3⟩ := cells4 (hL.get (P := pBlk w.heap.size #[.bool neg, .slice A n c, .int .i64 t, .int .i64 0] 71) (by repeat (first | exact List.mem_cons_self | apply List.mem_cons_of_mem)))
  go_wp2_with fail
  have hsz := xsize_any neg t 0 (hL.get (P := pT (.slice A n c) 128 N) (by repeat (first | exact List.mem_cons_self | apply List.mem_cons_of_mem))) (by omega) (by omega)
  rw [hs] at hsz
  refine hsz.mono ?_
  rintro e w2 ⟨rfl, hb⟩
  replace hL := hL.go hb
  clear hb hsz r0 r1 r2 r3
  by_cases hk : 0 ≤ k0
  · have hks : lgS N t = k0 + 1 := by rw [hlg.out, if_pos hk]
    have hR2 := hR.out
    rw [hks] at hR2
    replace hR2 := Lib.hid hR2
    go_wp2_with fail
    go_loopg [3] 6000 (fun g kv wr => ∃ k : Int, kv = .int .i64 k ∧ seekL N t g k = R ∧ -2000 ≤ k ∧ k ≤ 800 ∧ k - kx < g ∧ 0 < g ∧ LiveP w wr [pT (.slice A n c) 128 N, pBlk w.heap.size #[.bool neg, .slice A n c, .int .i64 t, .int .i64 0] 71])
    case atStart => exact ⟨k0 + 1, rfl, hR2.out, by omega, by omega, by omega, by decide, hL.keep (by simp)⟩
    case round =>
      obtain ⟨k, rfl, hsk, hk1, hk2, hk3, hk4, hL⟩ := hrel
      have hS0 := boxL (hL.go (Below.refl _ _).drew)
      obtain ⟨cv, hcv⟩ : ∃ cv, exC N t 0 1 k k = cv := ⟨_, rfl⟩
      have hstep : (cv < 0 ∧ 0 < gk - 1 ∧ kx < k ∧ seekL N t (gk - 1) (k - 1) = R) ∨ (¬ cv < 0 ∧ k = R) := by
        obtain ⟨f, rfl⟩ : ∃ f, gk = f + 1 := ⟨gk - 1, by omega⟩
        unfold seekL at hsk
        rw [hcv] at hsk
        by_cases h : cv < 0
        · rw [if_pos h] at hsk
          have hk : kx < k := Classical.byContradiction fun h' => exC_low h0 (by omega) (by omega) (hcv ▸ h)
          exact .inl ⟨h, by omega, hk, hsk⟩
        · rw [if_neg h] at hsk
          exact .inr ⟨h, hsk⟩
      have hcm := fun (W : World) A3 m3 c3 (h : LiveP w W [pT (.slice A n c) 128 N, pBlk w.heap.size #[.bool neg, .slice A n c, .int .i64 t, .int .i64 0] 71] ∧ w.heap.size < (W).heap.size ∧ (W).cell? ⟨w.heap.size, 0, none⟩ = some (.bool neg) ∧ (W).cell? ⟨w.heap.size, 1, none⟩ = some (.slice A n c) ∧ (W).cell? ⟨w.heap.size, 2, none⟩ = some (.int .i64 t) ∧ (W).cell? ⟨w.heap.size, 3, none⟩ = some (.int .i64 0)) (hv : IsT W (.slice A3 m3 c3) 1 1) => cmpL (k := k) h hv ⟨by omega, by omega⟩ ⟨by omega, by omega⟩
      rw [hcv] at hcm
      replace hcm := Lib.hid hcm
      replace hcv := Lib.hid hcv
      replace hstep := Lib.hid hstep
      go_wp2_with fail
      go_region_held3 (fun w' => LiveP w w' [pT (.slice A n c) 128 N, pBlk w.heap.size #[.bool neg, .slice A n c, .int .i64 t, .int .i64 0] 71] ∧ w.heap.size < (w').heap.size ∧ (w').cell? ⟨w.heap.size, 0, none⟩ = some (.bool neg) ∧ (w').cell? ⟨w.heap.size, 1, none⟩ = some (.slice A n c) ∧ (w').cell? ⟨w.heap.size, 2, none⟩ = some (.int .i64 t) ∧ (w').cell? ⟨w.heap.size, 3, none⟩ = some (.int .i64 0)) (first | exact hS0 | with_reducible assumption | exact keepL (by with_reducible assumption) (by with_reducible assumption))
        (first
          | (go_at_call 96; with_reducible refine (of_oneS _).mono ?_; rintro e w4 ⟨A4, n4, c4, rfl, hv4, hb4⟩)
          | (go_at_call 148; with_reducible refine (hcm.out _ _ _ _ (by with_reducible assumption) hv4).mono ?_; rintro e w5 ⟨rfl, hb5⟩))
      have hq : LiveP w w5 [pT (.slice A n c) 128 N, pBlk w.heap.size #[.bool neg, .slice A n c, .int .i64 t, .int .i64 0] 71] ∧ w.heap.size < (w5).heap.size ∧ (w5).cell? ⟨w.heap.size, 0, none⟩ = some (.bool neg) ∧ (w5).cell? ⟨w.heap.size, 1, none⟩ = some (.slice A n c) ∧ (w5).cell? ⟨w.heap.size, 2, none⟩ = some (.int .i64 t) ∧ (w5).cell? ⟨w.heap.size, 3, none⟩ = some (.int .i64 0) := by with_reducible assumption
      have hL5 := hq.1
      clear hq
      rcases hstep.out with ⟨s1, s2, s3, s4⟩ | ⟨s1, rfl⟩
      · go_wp2
        go_roundg (gk - 1)
        case measure => omega
        case rel => exact ⟨k - 1, rfl, s4, by omega, by omega, by omega, s2, hL5⟩
      · go_wp2
        go_ret
        exact ⟨rfl, hL5.below⟩
  · have hks : lgS N t = k0 := by rw [hlg.out, if_neg hk]
    have hR2 := hR.out
    rw [hks] at hR2
    replace hR2 := Lib.hid hR2
    go_wp2_with fail
    go_loopg [3] 6000 (fun g kv wr => ∃ k : Int, kv = .int .i64 k ∧ seekL N t g k = R ∧ -2000 ≤ k ∧ k ≤ 800 ∧ k - kx < g ∧ 0 < g ∧ LiveP w wr [pT (.slice A n c) 128 N, pBlk w.heap.size #[.bool neg, .slice A n c, .int .i64 t, .int .i64 0] 71])
    case atStart => exact ⟨k0, rfl, hR2.out, by omega, by omega, by omega, by decide, hL.keep (by simp)⟩
    case round =>
      obtain ⟨k, rfl, hsk, hk1, hk2, hk3, hk4, hL⟩ := hrel
      have hS0 := boxL (hL.go (Below.refl _ _).drew)
      obtain ⟨cv, hcv⟩ : ∃ cv, exC N t 0 1 k k = cv := ⟨_, rfl⟩
      have hstep : (cv < 0 ∧ 0 < gk - 1 ∧ kx < k ∧ seekL N t (gk - 1) (k - 1) = R) ∨ (¬ cv < 0 ∧ k = R) := by
        obtain ⟨f, rfl⟩ : ∃ f, gk = f + 1 := ⟨gk - 1, by omega⟩
        unfold seekL at hsk
        rw [hcv] at hsk
        by_cases h : cv < 0
        · rw [if_pos h] at hsk
          have hk : kx < k := Classical.byContradiction fun h' => exC_low h0 (by omega) (by omega) (hcv ▸ h)
          exact .inl ⟨h, by omega, hk, hsk⟩
        · rw [if_neg h] at hsk
          exact .inr ⟨h, hsk⟩
      have hcm := fun (W : World) A3 m3 c3 (h : LiveP w W [pT (.slice A n c) 128 N, pBlk w.heap.size #[.bool neg, .slice A n c, .int .i64 t, .int .i64 0] 71] ∧ w.heap.size < (W).heap.size ∧ (W).cell? ⟨w.heap.size, 0, none⟩ = some (.bool neg) ∧ (W).cell? ⟨w.heap.size, 1, none⟩ = some (.slice A n c) ∧ (W).cell? ⟨w.heap.size, 2, none⟩ = some (.int .i64 t) ∧ (W).cell? ⟨w.heap.size, 3, none⟩ = some (.int .i64 0)) (hv : IsT W (.slice A3 m3 c3) 1 1) => cmpL (k := k) h hv ⟨by omega, by omega⟩ ⟨by omega, by omega⟩
      rw [hcv] at hcm
      replace hcm := Lib.hid hcm
      replace hcv := Lib.hid hcv
      replace hstep := Lib.hid hstep
      go_wp2_with fail
      go_region_held3 (fun w' => LiveP w w' [pT (.slice A n c) 128 N, pBlk w.heap.size #[.bool neg, .slice A n c, .int .i64 t, .int .i64 0] 71] ∧ w.heap.size < (w').heap.size ∧ (w').cell? ⟨w.heap.size, 0, none⟩ = some (.bool neg) ∧ (w').cell? ⟨w.heap.size, 1, none⟩ = some (.slice A n c) ∧ (w').cell? ⟨w.heap.size, 2, none⟩ = some (.int .i64 t) ∧ (w').cell? ⟨w.heap.size, 3, none⟩ = some (.int .i64 0)) (first | exact hS0 | with_reducible assumption | exact keepL (by with_reducible assumption) (by with_reducible assumption))
        (first
          | (go_at_call 96; with_reducible refine (of_oneS _).mono ?_; rintro e w4 ⟨A4, n4, c4, rfl, hv4, hb4⟩)
          | (go_at_call 148; with_reducible refine (hcm.out _ _ _ _ (by with_reducible assumption) hv4).mono ?_; rintro e w5 ⟨rfl, hb5⟩))
      have hq : LiveP w w5 [pT (.slice A n c) 128 N, pBlk w.heap.size #[.bool neg, .slice A n c, .int .i64 t, .int .i64 0] 71] ∧ w.heap.size < (w5).heap.size ∧ (w5).cell? ⟨w.heap.size, 0, none⟩ = some (.bool neg) ∧ (w5).cell? ⟨w.heap.size, 1, none⟩ = some (.slice A n c) ∧ (w5).cell? ⟨w.heap.size, 2, none⟩ = some (.int .i64 t) ∧ (w5).cell? ⟨w.heap.size, 3, none⟩ = some (.int .i64 0) := by with_reducible assumption
      have hL5 := hq.1
      clear hq
      rcases hstep.out with ⟨s1, s2, s3, s4⟩ | ⟨s1, rfl⟩
      · go_wp2
        go_roundg (gk - 1)
        case measure => omega
        case rel => exact ⟨k - 1, rfl, s4, by omega, by omega, by omega, s2, hL5⟩
      · go_wp2
        go_ret
        exact ⟨rfl, hL5.below⟩
end Go.Proofs.YtncfbleeidjflaaGreatDoor
namespace Go.Proofs.YtncfbleeidjflaaGreatDoor
open Go.RowKit Go.Cal
set_option maxRecDepth 100000 in
set_option maxHeartbeats 1000000 in
theorem ten_any {w : World} {d : Value} {m N : Nat} (k : Int) (h : IsN w d m N) (hm : m ≤ 1048576) (hN : N < 18446744073709551616 ^ 128) (hk : -5000 ≤ k ∧ k ≤ 5000) :
    Calls Tryz.prog 152 #[d, .int .i64 k] w fun e w' => ∃ A n c, e = .returned (.agg #[.bool false, .slice A n c, .int .i64 k, .int .i64 k]) ∧ IsT w' (.slice A n c) 128 N ∧ Below w.heap.size w w' := by
  have hdc := Lib.hid fun (W : World) (h : IsN W d m N) => xdec_yes false k h hm hN hk
  obtain ⟨A0, c0, z0, rfl, -⟩ := id h
  clear hN
  go_enter Tryz.func152, Tryz.ntmps152
  go_wp2_with fail
  refine (hdc.out _ (h.below ((Below.refl _ _).alloc (Nat.le_refl _) _))).mono ?_
  rintro e w1 ⟨v, rfl, hv, hb⟩
  obtain ⟨A, c, zs, rfl, -⟩ := id hv
  obtain ⟨n, hn⟩ : ∃ n, zs.length = n := ⟨_, rfl⟩
  rw [hn] at hv ⊢
  clear hn hdc
  have hz := hb.size
  simp at hz
  have hp0 := pBlk_st _ _ _ _ _ (pBlk_st _ _ _ _ _ (pBlk_made w #[.bool false, .slice none 0 0, .int .i64 0, .int .i64 0] 71) hb) ((Below.refl _ _).alloc (Nat.le_refl _) (.cells #[.bool false, .slice A n c, .int .i64 k, .int .i64 k] 71))
  have hv1 := hv.below ((Below.refl _ _).alloc (Nat.le_refl _) (.cells #[.bool false, .slice A n c, .int .i64 k, .int .i64 k] 71))
  go_wp2_with ((with_reducible show wpList _ _ _ (Oper.mk _ (Op.store 71 _ _) _ _ _ _ :: _) _ _); refine wpList_store_each _ rfl 71 _ _ rfl w.heap.size #[.bool false, .slice A n c, .int .i64 k, .int .i64 k] #[.bool false, .slice none 0 0, .int .i64 0, .int .i64 0] 71 rfl rfl hp0 exact_size rfl (by simp [Value.oneCell']) (noU4 _ _ _ _ _ _) ?_; intro w2 hp2 hb2 hz2 hk2 ho2; obtain ⟨s0, s1, s2, s3⟩ := cells4 hp2)
  exact bodyPost_ret (v := .agg #[.bool false, .slice A n c, .int .i64 k, .int .i64 k]) (by simp [results, Tryz.results152, go_sem, s0, s1, s2, s3]) rfl ⟨A, n, c, rfl, hk2 _ _ _ hv1, (((Below.refl _ _).alloc (Nat.le_refl _) _).trans (hb.mono (by simp))).trans ((((Below.refl _ _).alloc (Nat.le_refl _) _).mono (by omega)).trans hb2)⟩
theorem cells3 {w : World} {g : Nat} {a b c : Value} {t : TypeId} (hp : pBlk g #[a, b, c] t w) :
    w.cell? ⟨g, 0, none⟩ = some a ∧ w.cell? ⟨g, 1, none⟩ = some b ∧ w.cell? ⟨g, 2, none⟩ = some c := ⟨hp.cell 0 _ rfl, hp.cell 1 _ rfl, hp.cell 2 _ rfl⟩
set_option maxRecDepth 100000 in
set_option maxHeartbeats 1000000 in
theorem sdigits_any {w : World} {A : Option Addr} {n c m N : Nat} (neg : Bool) (k : Int) (h : IsT w (.slice A n c) m N) (hm : m ≤ 1048576) (h0 : 0 < N) (F : Nat) (hF : F ≤ 3000) (hN : N < 10 ^ F) (hk : -5000 ≤ k ∧ k ≤ 5000) :
    Calls Tryz.prog 70 #[.bool neg, .slice A n c, .int .i64 k] w fun e w' => ∃ A' n' c', e = .returned (.agg #[.bool neg, .slice A' n' c', .int .i64 (stripV F N k).2]) ∧ IsT w' (.slice A' n' c') m (stripV F N k).1 ∧ Below w.heap.size w w' := by
  obtain ⟨R, hR⟩ : ∃ R, stripV F N k = R := ⟨_, rfl⟩
  rw [hR]
  have hb0 := (Below.refl w.heap.size w).alloc (Nat.le_refl _) (.cells #[.bool false, .slice none 0 0, .int .i64 0] 51)
  have hL := (LiveP.start w).go hb0
  have hL := hL.put (pBlk_st _ _ _) (pBlk_made w #[.bool false, .slice none 0 0, .int .i64 0] 51)
  have hv0 := h.below hb0
  have hN1 := hN
  replace hR := Lib.hid hR
  replace hN1 := Lib.hid hN1
  clear hN h hb0
  go_enter Tryz.func70, Tryz.ntmps70
  go_wp2_with fail
  go_loopg [1, 2] F (fun g dv kv wr => ∃ (A1 : Option Addr) (n1 c1 N1 : Nat) (k1 : Int), dv = .slice A1 n1 c1 ∧ kv = .int .i64 k1 ∧ stripV g N1 k1 = R ∧ 0 < N1 ∧ Hid (N1 < 10 ^ g) ∧ -5000 ≤ k1 ∧ k1 + g ≤ 8001 ∧ IsT wr (.slice A1 n1 c1) m N1 ∧ LiveP w wr [pBlk w.heap.size #[.bool false, .slice none 0 0, .int .i64 0] 51])
  case atStart => exact ⟨A, n, c, N, k, rfl, rfl, hR.out, h0, hN1, by omega, by omega, hv0, hL⟩
  case round =>
    obtain ⟨A1, n1, c1, N1, k1, rfl, rfl, hs, hp, hlt, hk1, hk2, hv1, hL⟩ := hrel
    obtain ⟨f, rfl⟩ : ∃ f, gk = f + 1 := by
      rcases gk with _ | f
      · have := hlt.out; simp at this; omega
      · exact ⟨f, rfl⟩
    have hn1 : 0 < n1 := by rcases isT_zero hv1 with ⟨a, b⟩ | ⟨a, b⟩ <;> omega
    have hn1' : ((n1 : Int) == 0) = false := by simp; omega
    have hlt' : N1 % 10 = 0 → N1 / 10 < 10 ^ f := by
      intro h
      have := hlt.out
      rw [Nat.pow_succ] at this
      omega
    replace hL := hL.put (pT_st (.slice A1 n1 c1) m N1) hv1
    clear hv1 hlt
    go_wp2_with fail
    refine (of_ten _).mono ?_
    rintro ex w1 ⟨u, rfl, hv, hb⟩
    replace hL := (hL.go hb).put (pT_st u 1 10) hv
    clear hb hv
    go_wp2_with fail
    refine (div_t (IsT.isN (hL.get (P := pT (.slice A1 n1 c1) m N1) (by repeat (first | exact List.mem_cons_self | apply List.mem_cons_of_mem)))) (IsT.isN (hL.get (P := pT u 1 10) (by repeat (first | exact List.mem_cons_self | apply List.mem_cons_of_mem)))) hm (by decide) (by decide)).mono ?_
    rintro e w4 ⟨v4, v5, rfl, hq, hr, hb⟩
    obtain ⟨A4, c4, z4, rfl, -⟩ := id hq
    obtain ⟨A5, c5, z5, rfl, -⟩ := id hr
    obtain ⟨n4, hn4⟩ : ∃ n, z4.length = n := ⟨_, rfl⟩
    obtain ⟨n5, hn5⟩ : ∃ n, z5.length = n := ⟨_, rfl⟩
    rw [hn4] at hq ⊢
    rw [hn5] at hr ⊢
    clear hn4 hn5
    replace hL := hL.go hb
    clear hb
    by_cases h10 : N1 % 10 = 0
    · have hn5 : ¬ 0 < n5 := by rcases isT_zero hr with ⟨a, b⟩ | ⟨a, b⟩ <;> omega
      have hn5' : n5 = 0 := by omega
      subst hn5'
      unfold stripV at hs
      rw [if_neg (by omega)] at hs
      replace hs := Lib.hid hs
      replace hlt' := Lib.hid (hlt' h10)
      replace h10 := Lib.hid h10
      go_wp2
      go_roundg f
      case measure => omega
      case rel => exact ⟨A4, n4, c4, N1 / 10, k1 + 1, rfl, rfl, hs.out, by have := h10.out; omega, hlt', by omega, by omega, hq, hL.keep (by simp)⟩
    · have hn5 : 0 < n5 := by rcases isT_zero hr with ⟨a, b⟩ | ⟨a, b⟩ <;> omega
      unfold stripV at hs
      rw [if_pos (.inr h10)] at hs
      subst hs
      have hX := hL.get (P := pBlk w.heap.size #[.bool false, .slice none 0 0, .int .i64 0] 51) (by repeat (first | exact List.mem_cons_self | apply List.mem_cons_of_mem))
      obtain ⟨q0, q1, q2⟩ := cells3 hX
      have f0 := hX.free 0
      have f1 := hX.free 1
      have f2 := hX.free 2
      have no3 : ∀ (a b c : Value), (∀ n, a ≠ .int .u64 n) → (∀ n, b ≠ .int .u64 n) → (∀ n, c ≠ .int .u64 n) → ∀ x ∈ (#[a, b, c] : Array Value).toList, ∀ n, x ≠ .int .u64 n := by
        intro a b c ha hb hc x hx
        simp at hx
        rcases hx with rfl | rfl | rfl <;> assumption
      have hvD := hL.get (P := pT (.slice A1 n1 c1) m N1) (by repeat (first | exact List.mem_cons_self | apply List.mem_cons_of_mem))
      have hvf := IsT.apartX (i := 2) (u := .int .i64 k1) (IsT.apartX (i := 1) (u := .slice A1 n1 c1) (IsT.apartX (i := 0) (u := .bool neg) hvD hX (no3 _ _ _ (by simp) (by simp) (by simp))) (hX.setX 0 (.bool neg)) (no3 _ _ _ (by simp) (by simp) (by simp))) ((hX.setX 0 (.bool neg)).setX 1 (.slice A1 n1 c1)) (no3 _ _ _ (by simp) (by simp) (by simp))
      have hBf := hL.below
      obtain ⟨y0, y1, y2⟩ := cells3 (show pBlk w.heap.size #[.bool neg, .slice A1 n1 c1, .int .i64 k1] 51 (((w4.setCell ⟨w.heap.size, 0, none⟩ (.bool neg)).setCell ⟨w.heap.size, 1, none⟩ (.slice A1 n1 c1)).setCell ⟨w.heap.size, 2, none⟩ (.int .i64 k1)) from ((hX.setX 0 (.bool neg)).setX 1 (.slice A1 n1 c1)).setX 2 (.int .i64 k1))
      go_wp2
      exact bodyPost_ret (v := .agg #[.bool neg, .slice A1 n1 c1, .int .i64 k1]) (by simp [results, Tryz.results70, go_sem, y0, y1, y2]) rfl ⟨A1, n1, c1, rfl, hvf, ((hBf.setCell (p := ⟨w.heap.size, 0, none⟩) (Nat.le_refl _) _).setCell (p := ⟨w.heap.size, 1, none⟩) (Nat.le_refl _) _).setCell (p := ⟨w.heap.size, 2, none⟩) (Nat.le_refl _) _⟩
end Go.Proofs.YtncfbleeidjflaaGreatDoor
namespace Go.Proofs.YtncfbleeidjflaaGreatDoor
open Go.RowKit Go.Cal
theorem pBlk_madeS (w : World) (cs : Array Value) (t : TypeId) (s : Nat) (hs : w.heap.size = s) : pBlk s cs t (w.alloc (.cells cs t)) := by
  subst hs; exact pBlk_made w cs t
/-- How the test is made up. -/
theorem has_cases (i : Itv) (d : Nat) (k : Int) (nl nh : Nat) (hl : (nl = 0 ∧ i.lowN = 0) ∨ (0 < nl ∧ 0 < i.lowN)) (hh : (nh = 0 ∧ i.highN = 0) ∨ (0 < nh ∧ 0 < i.highN)) (a b : Int) (ha : exC d k k i.lowN i.lowT 0 = a) (hb : exC d k k i.highN i.highT 0 = b) :
    itvHas i d k = ((decide (0 < a) || (a == 0 && i.even && decide (0 < nl))) && (decide ((if 0 < nh then b else -1) < 0) || ((if 0 < nh then b else -1) == 0 && i.even))) := by
  unfold itvHas
  rw [ha, hb]
  have e1 : decide (0 < i.lowN) = decide (0 < nl) := by rcases hl with ⟨h1, h2⟩ | ⟨h1, h2⟩ <;> simp [h1, h2]
  have e2 : (if 0 < i.highN then b else -1) = (if 0 < nh then b else -1) := by
    rcases hh with ⟨h1, h2⟩ | ⟨h1, h2⟩
    · rw [h1, h2]
    · rw [if_pos h1, if_pos h2]
  rw [e1, e2]
set_option maxRecDepth 100000 in
set_option maxHeartbeats 4000000 in
theorem has_any {w : World} {Al Ah A : Option Addr} {nl cl nh ch n c d : Nat} (i : Itv) (k : Int) (hl : IsT w (.slice Al nl cl) 128 i.lowN) (hh : IsT w (.slice Ah nh ch) 128 i.highN) (hx : IsT w (.slice A n c) 128 d)
    (h1 : -5000 ≤ i.lowT ∧ i.lowT ≤ 5000) (h2 : -5000 ≤ i.highT ∧ i.highT ≤ 5000) (hk : -5000 ≤ k ∧ k ≤ 5000) :
    Calls Tryz.prog 151 #[.agg #[.bool false, .slice Al nl cl, .int .i64 i.lowT, .int .i64 0, .bool false, .slice Ah nh ch, .int .i64 i.highT, .int .i64 0, .bool i.even], .agg #[.bool false, .slice A n c, .int .i64 k, .int .i64 k]] w fun e w' => e = .returned (.bool (itvHas i d k)) ∧ Below w.heap.size w w' := by
  obtain ⟨a, ha⟩ : ∃ a, exC d k k i.lowN i.lowT 0 = a := ⟨_, rfl⟩
  obtain ⟨b, hb⟩ : ∃ b, exC d k k i.highN i.highT 0 = b := ⟨_, rfl⟩
  have hc1 := fun (W : World) (hx : IsT W (.slice A n c) 128 d) (hl : IsT W (.slice Al nl cl) 128 i.lowN) => xcmp_any false false k i.lowT k 0 hx hl hk h1 hk ⟨by decide, by decide⟩
  have hc2 := fun (W : World) (hx : IsT W (.slice A n c) 128 d) (hh : IsT W (.slice Ah nh ch) 128 i.highN) => xcmp_any false false k i.highT k 0 hx hh hk h2 hk ⟨by decide, by decide⟩
  rw [ha] at hc1
  rw [hb] at hc2
  rw [has_cases i d k nl nh (isT_zero hl) (isT_zero hh) a b ha hb]
  clear ha hb
  obtain ⟨lN, lT, hN, hT, ev⟩ := i
  simp only at hl hh h1 h2 hc1 hc2 ⊢
  replace hc1 := Lib.hid hc1
  replace hc2 := Lib.hid hc2
  have hnl : 0 < nl ∨ nl = 0 := by omega
  have hnh : 0 < nh ∨ nh = 0 := by omega
  have hA : (0 < a) ∨ (a = 0 ∧ ev = true ∧ 0 < nl) ∨ (a = 0 ∧ ev = true ∧ nl = 0) ∨ (a = 0 ∧ ev = false) ∨ a < 0 := by
    rcases Int.lt_trichotomy a 0 with h | h | h
    · exact .inr (.inr (.inr (.inr h)))
    · cases ev
      · exact .inr (.inr (.inr (.inl ⟨h, rfl⟩)))
      · rcases hnl with h2 | h2
        · exact .inr (.inl ⟨h, rfl, h2⟩)
        · exact .inr (.inr (.inl ⟨h, rfl, h2⟩))
    · exact .inl h
  have hb0 : Below w.heap.size w ((w.alloc (.cells #[.bool false, .slice Al nl cl, .int .i64 lT, .int .i64 0, .bool false, .slice Ah nh ch, .int .i64 hT, .int .i64 0, .bool ev] 108)).alloc (.cells #[.bool false, .slice A n c, .int .i64 k, .int .i64 k] 71)) := ((Below.refl _ _).alloc (Nat.le_refl _) _).alloc (by simp) _
  have hL := ((((LiveP.start w).go hb0).put (pT_st (.slice Al nl cl) 128 lN) (hl.below hb0)).put (pT_st (.slice Ah nh ch) 128 hN) (hh.below hb0)).put (pT_st (.slice A n c) 128 d) (hx.below hb0)
  have hL := (hL.put (pBlk_st _ _ _) (pBlk_st _ _ _ _ _ (pBlk_made w #[.bool false, .slice Al nl cl, .int .i64 lT, .int .i64 0, .bool false, .slice Ah nh ch, .int .i64 hT, .int .i64 0, .bool ev] 108) ((Below.refl _ _).alloc (Nat.le_refl _) (.cells #[.bool false, .slice A n c, .int .i64 k, .int .i64 k] 71)))).put (pBlk_st _ _ _) (pBlk_madeS (w.alloc (.cells #[.bool false, .slice Al nl cl, .int .i64 lT, .int .i64 0, .bool false, .slice Ah nh ch, .int .i64 hT, .int .i64 0, .bool ev] 108)) #[.bool false, .slice A n c, .int .i64 k, .int .i64 k] 71 (w.heap.size + 1) (by simp))
  clear hnl hb0
  have hB : b < 0 ∨ (b = 0 ∧ ev = true) ∨ (b = 0 ∧ ev = false) ∨ 0 < b := by
    rcases Int.lt_trichotomy b 0 with h | h | h
    · exact .inl h
    · cases ev
      · exact .inr (.inr (.inl ⟨h, rfl⟩))
      · exact .inr (.inl ⟨h, rfl⟩)
    · exact .inr (.inr (.inr h))
  replace hA := Lib.hid hA
  replace hB := Lib.hid hB
  rcases hnh with n1 | n0
  · rw [if_pos n1]
    go_enter Tryz.func151, Tryz.ntmps151
    go_wp2_with fail
    refine (hc1.out _ (hL.get (P := pT (.slice A n c) 128 d) (by repeat (first | exact List.mem_cons_self | apply List.mem_cons_of_mem))) (hL.get (P := pT (.slice Al nl cl) 128 lN) (by repeat (first | exact List.mem_cons_self | apply List.mem_cons_of_mem)))).mono ?_
    rintro e w1 ⟨rfl, hb⟩
    replace hL := hL.go hb
    clear hb
    obtain ⟨q0, q1, q2, q3⟩ := cells4 (hL.get (P := pBlk (w.heap.size + 1) #[.bool false, .slice A n c, .int .i64 k, .int .i64 k] 71) (by repeat (first | exact List.mem_cons_self | apply List.mem_cons_of_mem)))
    have hI := hL.get (P := pBlk w.heap.size #[.bool false, .slice Al nl cl, .int .i64 lT, .int .i64 0, .bool false, .slice Ah nh ch, .int .i64 hT, .int .i64 0, .bool ev] 108) (by repeat (first | exact List.mem_cons_self | apply List.mem_cons_of_mem))
    have r0 := hI.cell 0 _ rfl
    have r1 := hI.cell 1 _ rfl
    have r2 := hI.cell 2 _ rfl
    have r3 := hI.cell 3 _ rfl
    have r4 := hI.cell 4 _ rfl
    have r5 := hI.cell 5 _ rfl
    have r6 := hI.cell 6 _ rfl
    have r7 := hI.cell 7 _ rfl
    have r8 := hI.cell 8 _ rfl
    go_wp2_with fail
    refine (hc2.out _ (hL.get (P := pT (.slice A n c) 128 d) (by repeat (first | exact List.mem_cons_self | apply List.mem_cons_of_mem))) (hL.get (P := pT (.slice Ah nh ch) 128 hN) (by repeat (first | exact List.mem_cons_self | apply List.mem_cons_of_mem)))).mono ?_
    rintro e w2 ⟨rfl, hb⟩
    replace hL := hL.go hb
    clear hb q0 q1 q2 q3 r0 r1 r2 r3 r4 r5 r6 r7 r8 hI
    have hI := hL.get (P := pBlk w.heap.size #[.bool false, .slice Al nl cl, .int .i64 lT, .int .i64 0, .bool false, .slice Ah nh ch, .int .i64 hT, .int .i64 0, .bool ev] 108) (by repeat (first | exact List.mem_cons_self | apply List.mem_cons_of_mem))
    have r1 := hI.cell 1 _ rfl
    have r8 := hI.cell 8 _ rfl
    have hBf := hL.below
    clear hI hL
    rcases hA.out with h | ⟨rfl, rfl, h⟩ | ⟨rfl, rfl, rfl⟩ | ⟨rfl, rfl⟩ | h
    all_goals
      clear hA hB
      go_wp2
      all_goals
        go_ret
        exact ⟨by first | rfl | (simp_all; done) | (simp_all; omega) | (simp; omega), hBf⟩
  · have n1 : ¬ 0 < nh := by omega
    rw [if_neg n1]
    replace n0 := Lib.hid n0
    go_enter Tryz.func151, Tryz.ntmps151
    go_wp2_with fail
    refine (hc1.out _ (hL.get (P := pT (.slice A n c) 128 d) (by repeat (first | exact List.mem_cons_self | apply List.mem_cons_of_mem))) (hL.get (P := pT (.slice Al nl cl) 128 lN) (by repeat (first | exact List.mem_cons_self | apply List.mem_cons_of_mem)))).mono ?_
    rintro e w1 ⟨rfl, hb⟩
    replace hL := hL.go hb
    clear hb
    obtain ⟨q0, q1, q2, q3⟩ := cells4 (hL.get (P := pBlk (w.heap.size + 1) #[.bool false, .slice A n c, .int .i64 k, .int .i64 k] 71) (by repeat (first | exact List.mem_cons_self | apply List.mem_cons_of_mem)))
    have hI := hL.get (P := pBlk w.heap.size #[.bool false, .slice Al nl cl, .int .i64 lT, .int .i64 0, .bool false, .slice Ah nh ch, .int .i64 hT, .int .i64 0, .bool ev] 108) (by repeat (first | exact List.mem_cons_self | apply List.mem_cons_of_mem))
    have r0 := hI.cell 0 _ rfl
    have r1 := hI.cell 1 _ rfl
    have r2 := hI.cell 2 _ rfl
    have r3 := hI.cell 3 _ rfl
    have r4 := hI.cell 4 _ rfl
    have r5 := hI.cell 5 _ rfl
    have r6 := hI.cell 6 _ rfl
    have r7 := hI.cell 7 _ rfl
    have r8 := hI.cell 8 _ rfl
    have hBf := hL.below
    clear hI hL
    rcases hA.out with h | ⟨rfl, rfl, h⟩ | ⟨rfl, rfl, rfl⟩ | ⟨rfl, rfl⟩ | h
    all_goals
      clear hA hB
      go_wp2
      all_goals
        go_ret
        exact ⟨by first | rfl | (simp_all; done) | (simp_all; omega) | (simp; omega), hBf⟩
end Go.Proofs.YtncfbleeidjflaaGreatDoor
