/- The shortest digits of a number, walked. Conditions: the variables that values read. -/
/- Print: the text of a pattern, walked. Conditions: the variables that values and words read. -/
/- Plain: what Short and Full tell are right digits. Conditions: none. -/
import Derived.Test.YtncfbleeidjflaaGreatDoorPz35
import Derived.Test.YtncfbleeidjflaaGreatDoorPz21
import Derived.Deep.LoopGhost
import Derived.Test.YtncfbleeidjflaaGreatDoorPz23
import Derived.Test.YtncfbleeidjflaaGreatDoorPz22
namespace Go.Proofs.YtncfbleeidjflaaGreatDoor
open Go.RowKit Go.Cal
theorem lim_bnd {id : Int} {ng : Bool} {K : Nat} (h1 : 1 ≤ id) (h2 : id < 15) (hk : (K : Int) ≤ fitM id) : (-5000 ≤ (limV id ng K).lowT ∧ (limV id ng K).lowT ≤ 5000) ∧ (-5000 ≤ (limV id ng K).highT ∧ (limV id ng K).highT ≤ 5000) := by
  obtain ⟨-, -, a3, a4, -⟩ := mag_range (key := K - 1) h1 h2 (by omega)
  obtain ⟨-, -, b3, b4, -⟩ := mag_range (key := K) h1 h2 hk
  constructor
  · show -5000 ≤ (if limF id ≤ K then _ else _) ∧ (if limF id ≤ K then _ else _) ≤ 5000
    split
    · exact ⟨a3, a4⟩
    · decide
  · show -5000 ≤ (if limH id ng K = true then _ else _) ∧ (if limH id ng K = true then _ else _) ≤ 5000
    split
    · exact ⟨b3, b4⟩
    · decide
theorem pBlk_oth {h g i : Nat} {cs : Array Value} {t : TypeId} {w : World} {v : Value} (hp : pBlk h cs t w) (hne : h ≠ g) : pBlk h cs t (w.setCell ⟨g, i, none⟩ v) := by
  unfold pBlk at hp ⊢
  unfold World.setCell
  simp only [Array.getElem?_modify]
  rw [if_neg (fun e => hne e.symm)]
  exact hp
theorem World.cell?_setCell_otherB (w : World) (g i h : Nat) (v : Value) (hne : h ≠ g) (o : Nat) : (w.setCell ⟨g, i, none⟩ v).cell? ⟨h, o, none⟩ = w.cell? ⟨h, o, none⟩ :=
  World.cell?_setCell_other _ _ _ _ (fun e => hne (by injection e with e; exact e.symm))
/-- What Short tells. -/
def shortV (i : Itv) (mv : Nat) (ev : Int) (F : Nat) : Nat × Int := stripV F (seekV i mv ev 3000 (lgV mv ev)).1 (seekV i mv ev 3000 (lgV mv ev)).2
theorem lt_powS {N e f : Nat} (h : N < 10 ^ e) (he : e ≤ f) : N < 10 ^ f := Nat.lt_of_lt_of_le h (Nat.pow_le_pow_right (by decide) he)
theorem hasM_bnd {m F : Nat} {e : Int} (hm : m < 18446744073709551616) (he : -2000 ≤ e ∧ e ≤ 2000) (hF : 1991 ≤ F) : hasM m e + 1 < 10 ^ F ∧ hasM m e + 1 < 18446744073709551616 ^ 128 := by
  have h1 := numV_lt (Lib.decDigits (hasM m e)) (dec_digs _)
  rw [numV_dec] at h1
  have h2 : ∀ G, 1991 ≤ G → hasM m e + 1 < 10 ^ G := by
    intro G hG
    have h3 := lt_powS h1 (has_len hm he).1
    obtain ⟨f, rfl⟩ : ∃ f, G = f + 1 := ⟨G - 1, by omega⟩
    have h4 := lt_powS h3 (show 1990 ≤ f by omega)
    rw [Nat.pow_succ]
    omega
  refine ⟨h2 F hF, ?_⟩
  have h5 := h2 2000 (by decide)
  exact num_bigX (by decide) h5
set_option maxRecDepth 100000 in
set_option maxHeartbeats 4000000 in
theorem short_yes {id p : Int} {ng : Bool} {K mv : Nat} {ev : Int} (h : Fin id p ng K mv ev) (w : World) (hW : VaW w) (F : Nat) (hF : F ≤ 3000) (hF0 : 2000 ≤ F) (mm : Nat) (hm1 : 12178 ≤ mm) (hm2 : mm ≤ 1000000) :
    Calls Tryz.prog 24 #[.int .i64 id, .int .u64 p] w fun e w' => ∃ A n c, e = .returned (.tuple #[.agg #[.bool ng, .slice A n c, .int .i64 (shortV (limV id ng K) mv ev F).2], .int .i64 0]) ∧ IsT w' (.slice A n c) (mm + 1) (shortV (limV id ng K) mv ev F).1 ∧ Below w.heap.size w w' := by
  have hfi := Lib.hid fun w hW => finite_yes h w hW
  have hlm := fun w hW => rlimits_yes id p h.h1 h.h2 h.p0 h.p1 h.cl K h.key w hW
  rw [h.ng] at hlm
  obtain ⟨i, hi⟩ : ∃ i, limV id ng K = i := ⟨_, rfl⟩
  rw [hi] at hlm
  obtain ⟨lN, lT, hN, hT, evn⟩ := i
  simp only at hlm
  replace hlm := Lib.hid hlm
  obtain ⟨b1, b2, b3, b4⟩ := h.bnd
  obtain ⟨x1, x2, x3, x4⟩ := class_two h.h1 h.h2 h.p0 h.p1 h.cl
  rw [h.key] at x1 x2 x3
  rw [h.ng] at x2 x4
  have hE : mostE id ng = 0 := by
    have a1 := h.h1
    have a2 := h.h2
    unfold mostE
    rw [if_neg (by omega), if_neg (fun h => x4 h.1 h.2)]
  have hK0 : fK id ≠ 4 → 0 < K := fun h4 => by have := x3 h4; omega
  obtain ⟨lb1, lb2⟩ := lim_bnd (ng := ng) h.h1 h.h2 x1
  rw [hi] at lb1 lb2
  simp only at lb1 lb2
  have hns := nig_some hE x2 hK0 h.mag
  rw [hi] at hns
  obtain ⟨kx, hkx⟩ : ∃ kx, min ev 0 = kx := ⟨_, rfl⟩
  obtain ⟨lg, hlgv⟩ : ∃ lg, lgV mv ev = lg := ⟨_, rfl⟩
  have hlb := lgV_bnd b1 (by simpa using b2) ⟨b3, b4⟩
  have hlb2 := lgV_ge b1 (by simpa using b2) ⟨b3, b4⟩
  rw [hlgv] at hlb hlb2
  rw [hkx] at hlb2 hns
  obtain ⟨R, hR⟩ : ∃ R, seekV ⟨lN, lT, hN, hT, evn⟩ mv ev 3000 lg = R := ⟨_, rfl⟩
  have hlg := fun (W : World) A n c (hv : IsT W (.slice A n c) 128 mv) => xlog_any false ev hv b1 (by simpa using b2) ⟨b3, b4⟩
  rw [hlgv] at hlg
  obtain ⟨hlb, hlb'⟩ := hlb
  obtain ⟨hMF, hMb⟩ := hasM_bnd b2 ⟨b3, b4⟩ (show 1991 ≤ F by omega)
  have hnr := fun (W : World) Al nl cl Ah nh ch A n c (k : Int) (hl : IsT W (.slice Al nl cl) 128 lN) (hh : IsT W (.slice Ah nh ch) 128 hN) (hx : IsT W (.slice A n c) 128 mv) (hk : -5000 ≤ k ∧ k ≤ 5000) (hq : flQ mv ev k + 1 < 18446744073709551616 ^ 128) =>
    near_any mm (by omega) (by omega) ⟨lN, lT, hN, hT, evn⟩ ev k hl hh hx lb1 lb2 ⟨by omega, by omega⟩ hk hq
  have hSV : shortV (limV id ng K) mv ev F = stripV F R.1 R.2 := by unfold shortV; rw [hi, hlgv, hR]
  rw [hSV]
  replace hMF := Lib.hid hMF
  replace hMb := Lib.hid hMb
  replace hnr := Lib.hid hnr
  replace hi := Lib.hid hi
  replace hlg := Lib.hid hlg
  replace hR := Lib.hid hR
  replace hns := Lib.hid hns
  clear x1 x2 x3 x4 hE hK0 h
  have hb0 := (Below.refl w.heap.size w).alloc (Nat.le_refl _) (.cells #[.bool false, .slice none 0 0, .int .i64 0] 51)
  have hL := ((LiveP.start w).go hb0).put (pBlk_st _ _ _) (pBlk_made w #[.bool false, .slice none 0 0, .int .i64 0] 51)
  clear hb0
  go_enter Tryz.func24, Tryz.ntmps24
  go_wp2_with fail
  refine (hfi.out _ (hW.below hL.below)).mono ?_
  rintro e u1 ⟨A, n, c, rfl, hv, hb⟩
  have hu1 := hb.size
  simp at hu1
  replace hL := (hL.go hb).put (pT_st _ _ _) hv
  have hL1 := (hL.go ((Below.refl _ _).alloc (Nat.le_refl _) (.cells #[.int .i64 2, .bool ng, .int .u64 (mv : Nat), .int .i64 ev] 46))).put (pBlk_st _ _ _) (pBlk_made u1 #[.int .i64 2, .bool ng, .int .u64 (mv : Nat), .int .i64 ev] 46)
  have hL2 := (hL1.go ((Below.refl _ _).alloc (Nat.le_refl _) (.cells #[.bool false, .slice A n c, .int .i64 ev, .int .i64 0] 71))).put (pBlk_st _ _ _) (pBlk_madeS (u1.alloc (.cells #[.int .i64 2, .bool ng, .int .u64 (mv : Nat), .int .i64 ev] 46)) #[.bool false, .slice A n c, .int .i64 ev, .int .i64 0] 71 (u1.heap.size + 1) (by simp))
  have hL3 := (hL2.go ((Below.refl _ _).alloc (Nat.le_refl _) (.cells #[.bool false, .slice none 0 0, .int .i64 0, .int .i64 0, .bool false, .slice none 0 0, .int .i64 0, .int .i64 0, .bool false] 108))).put (pBlk_st _ _ _) (pBlk_madeS ((u1.alloc (.cells #[.int .i64 2, .bool ng, .int .u64 (mv : Nat), .int .i64 ev] 46)).alloc (.cells #[.bool false, .slice A n c, .int .i64 ev, .int .i64 0] 71)) #[.bool false, .slice none 0 0, .int .i64 0, .int .i64 0, .bool false, .slice none 0 0, .int .i64 0, .int .i64 0, .bool false] 108 (u1.heap.size + 2) (by simp))
  clear hb hv hL hL1 hL2
  go_wp2_with fail
  refine (hlm.out _ (hW.below hL3.below)).mono ?_
  rintro e u2 ⟨Al, nl, cl, Ah, nh, ch, rfl, hvl, hvh, hb⟩
  replace hL := ((hL3.go hb).put (pT_st _ _ _) hvl).put (pT_st _ _ _) hvh
  clear hb hL3 hvl hvh
  obtain ⟨gv, hgv⟩ : ∃ g, u1.heap.size = g := ⟨_, rfl⟩
  rw [hgv] at hL hu1 ⊢
  have pI := hL.get (P := pBlk (gv + 2) #[.bool false, .slice none 0 0, .int .i64 0, .int .i64 0, .bool false, .slice none 0 0, .int .i64 0, .int .i64 0, .bool false] 108) (by repeat (first | exact List.mem_cons_self | apply List.mem_cons_of_mem))
  have pV := hL.get (P := pBlk gv #[.int .i64 2, .bool ng, .int .u64 (mv : Nat), .int .i64 ev] 46) (by repeat (first | exact List.mem_cons_self | apply List.mem_cons_of_mem))
  have pX := hL.get (P := pBlk (gv + 1) #[.bool false, .slice A n c, .int .i64 ev, .int .i64 0] 71) (by repeat (first | exact List.mem_cons_self | apply List.mem_cons_of_mem))
  have pD := hL.get (P := pBlk w.heap.size #[.bool false, .slice none 0 0, .int .i64 0] 51) (by repeat (first | exact List.mem_cons_self | apply List.mem_cons_of_mem))
  have hv := hL.get (P := pT (.slice A n c) 128 mv) (by repeat (first | exact List.mem_cons_self | apply List.mem_cons_of_mem))
  have hvl := hL.get (P := pT (.slice Al nl cl) 128 lN) (by repeat (first | exact List.mem_cons_self | apply List.mem_cons_of_mem))
  have hvh := hL.get (P := pT (.slice Ah nh ch) 128 hN) (by repeat (first | exact List.mem_cons_self | apply List.mem_cons_of_mem))
  have B := hL.below
  have hno : ∀ x ∈ (#[.bool false, .slice none 0 0, .int .i64 0, .int .i64 0, .bool false, .slice none 0 0, .int .i64 0, .int .i64 0, .bool false] : Array Value).toList, ∀ n, x ≠ .int .u64 n := by simp
  have hno1 : ∀ x ∈ (#[.bool false, .slice Al nl cl, .int .i64 lT, .int .i64 0, .bool false, .slice none 0 0, .int .i64 0, .int .i64 0, .bool false] : Array Value).toList, ∀ n, x ≠ .int .u64 n := by simp
  clear hL
  go_wp2_with (first
    | ((with_reducible show wpList _ _ _ (Oper.mk _ (Op.store 71 _ _) _ _ _ _ :: _) _ _); refine wpList_store_part4 _ rfl 71 _ _ rfl (gv + 2) 0 (.bool false) (.slice Al nl cl) (.int .i64 lT) (.int .i64 0) #[.bool false, .slice none 0 0, .int .i64 0, .int .i64 0, .bool false, .slice none 0 0, .int .i64 0, .int .i64 0, .bool false] #[.bool false, .slice Al nl cl, .int .i64 lT, .int .i64 0, .bool false, .slice none 0 0, .int .i64 0, .int .i64 0, .bool false] 108 rfl rfl pI (by simp) exact_size (by simp [Value.oneCell']) hno (by simp) (by simp) (by simp) rfl ?_; intro u3 pI3 hb3 hz3 hk3 ho3)
    | ((with_reducible show wpList _ _ _ (Oper.mk _ (Op.store 71 _ _) _ _ _ _ :: _) _ _); refine wpList_store_part4 _ rfl 71 _ _ rfl (gv + 2) 4 (.bool false) (.slice Ah nh ch) (.int .i64 hT) (.int .i64 0) #[.bool false, .slice Al nl cl, .int .i64 lT, .int .i64 0, .bool false, .slice none 0 0, .int .i64 0, .int .i64 0, .bool false] #[.bool false, .slice Al nl cl, .int .i64 lT, .int .i64 0, .bool false, .slice Ah nh ch, .int .i64 hT, .int .i64 0, .bool false] 108 rfl rfl pI3 (by simp) exact_size (by simp [Value.oneCell']) hno1 (by simp) (by simp) (by simp) rfl ?_; intro u4 pI4 hb4 hz4 hk4 ho4; have e8 := pI4.cell 8 _ rfl; have ef := pI4.free 8; have pX4 := ho4 _ _ _ (by omega) (ho3 _ _ _ (by omega) pX); have hX5 := World.cell?_setCell_otherB u4 (gv + 1 + 1) 8 (gv + 1) (.bool evn) (by omega); obtain ⟨x0, x1, x2, x3⟩ := cells4 pX4))
  have pI5 : pBlk (gv + 2) #[.bool false, .slice Al nl cl, .int .i64 lT, .int .i64 0, .bool false, .slice Ah nh ch, .int .i64 hT, .int .i64 0, .bool evn] 108 (u4.setCell ⟨gv + 1 + 1, 8, none⟩ (.bool evn)) := pBlk.setX pI4 8 (.bool evn)
  have hno2 : ∀ x ∈ (#[.bool false, .slice Al nl cl, .int .i64 lT, .int .i64 0, .bool false, .slice Ah nh ch, .int .i64 hT, .int .i64 0, .bool false] : Array Value).toList, ∀ n, x ≠ .int .u64 n := by simp
  have kU : ∀ v k N, IsT u2 v k N → IsT (u4.setCell ⟨gv + 1 + 1, 8, none⟩ (.bool evn)) v k N := fun v k N h => IsT.apartX (hk4 _ _ _ (hk3 _ _ _ h)) pI4 hno2
  have oU : ∀ h cs t, h ≠ gv + 2 → pBlk h cs t u2 → pBlk h cs t (u4.setCell ⟨gv + 1 + 1, 8, none⟩ (.bool evn)) := fun h cs t hne hp => pBlk_oth (ho4 _ _ _ hne (ho3 _ _ _ hne hp)) hne
  have BU : Below w.heap.size w (u4.setCell ⟨gv + 1 + 1, 8, none⟩ (.bool evn)) := ((B.trans (hb3.mono (by omega))).trans (hb4.mono (by omega))).setCell (p := ⟨gv + 1 + 1, 8, none⟩) (by simp; omega) _
  obtain ⟨U, hU⟩ : ∃ U, u4.setCell ⟨gv + 1 + 1, 8, none⟩ (.bool evn) = U := ⟨_, rfl⟩
  rw [hU] at pI5 kU oU BU ⊢
  have hL := ((((((((⟨BU, fun p hp => by simp at hp⟩ : LiveP w U []).put (pT_st _ _ _) (kU _ _ _ hv)).put (pT_st _ _ _) (kU _ _ _ hvl)).put (pT_st _ _ _) (kU _ _ _ hvh)).put (pBlk_st _ _ _) (oU _ _ _ (by omega) pD)).put (pBlk_st _ _ _) (oU _ _ _ (by omega) pV)).put (pBlk_st _ _ _) (oU _ _ _ (by omega) pX)).put (pBlk_st _ _ _) pI5)
  clear pI pV pX pD hv hvl hvh B pI3 hb3 hz3 hk3 ho3 pI4 hb4 hz4 hk4 ho4 e8 ef pX4 x0 x1 x2 x3 pI5 kU oU BU hU hno hno1 hno2
  refine (hlg.out _ _ _ _ (hL.get (P := pT (.slice A n c) 128 mv) (by repeat (first | exact List.mem_cons_self | apply List.mem_cons_of_mem)))).mono ?_
  rintro e u5 ⟨rfl, hb⟩
  replace hL := hL.go hb
  clear hb
  go_wp2_with fail
  go_loopg [10] 3000 (fun g kv wr => ∃ k : Int, kv = .int .i64 k ∧ seekV ⟨lN, lT, hN, hT, evn⟩ mv ev g k = R ∧ kx ≤ k ∧ k ≤ 700 ∧ k - kx < g ∧ LiveP w wr [pBlk (gv + 2) #[.bool false, .slice Al nl cl, .int .i64 lT, .int .i64 0, .bool false, .slice Ah nh ch, .int .i64 hT, .int .i64 0, .bool evn] 108, pBlk (gv + 1) #[.bool false, .slice A n c, .int .i64 ev, .int .i64 0] 71, pBlk gv #[.int .i64 2, .bool ng, .int .u64 (mv : Nat), .int .i64 ev] 46, pBlk w.heap.size #[.bool false, .slice none 0 0, .int .i64 0] 51, pT (.slice Ah nh ch) 128 hN, pT (.slice Al nl cl) 128 lN, pT (.slice A n c) 128 mv])
  case atStart => exact ⟨lg, rfl, hR.out, by omega, by omega, by omega, hL.keep (by simp)⟩
  case round =>
    obtain ⟨k, rfl, hsk, hk1, hk2, hk3, hL⟩ := hrel
    have pX := hL.get (P := pBlk (gv + 1) #[.bool false, .slice A n c, .int .i64 ev, .int .i64 0] 71) (by repeat (first | exact List.mem_cons_self | apply List.mem_cons_of_mem))
    have pI := hL.get (P := pBlk (gv + 2) #[.bool false, .slice Al nl cl, .int .i64 lT, .int .i64 0, .bool false, .slice Ah nh ch, .int .i64 hT, .int .i64 0, .bool evn] 108) (by repeat (first | exact List.mem_cons_self | apply List.mem_cons_of_mem))
    obtain ⟨x0, x1, x2, x3⟩ := cells4 pX
    have r0 := pI.cell 0 _ rfl
    have r1 := pI.cell 1 _ rfl
    have r2 := pI.cell 2 _ rfl
    have r3 := pI.cell 3 _ rfl
    have r4 := pI.cell 4 _ rfl
    have r5 := pI.cell 5 _ rfl
    have r6 := pI.cell 6 _ rfl
    have r7 := pI.cell 7 _ rfl
    have r8 := pI.cell 8 _ rfl
    go_wp2_with fail
    have hqb : flQ mv ev k + 1 < 18446744073709551616 ^ 128 := by
      have h5 : flQ mv ev k ≤ hasM mv ev := flQ_le (by omega)
      exact Nat.lt_of_le_of_lt (Nat.succ_le_succ h5) hMb.out
    refine (hnr.out _ _ _ _ _ _ _ _ _ _ k (hL.get (P := pT (.slice Al nl cl) 128 lN) (by repeat (first | exact List.mem_cons_self | apply List.mem_cons_of_mem))) (hL.get (P := pT (.slice Ah nh ch) 128 hN) (by repeat (first | exact List.mem_cons_self | apply List.mem_cons_of_mem))) (hL.get (P := pT (.slice A n c) 128 mv) (by repeat (first | exact List.mem_cons_self | apply List.mem_cons_of_mem))) ⟨by omega, by omega⟩ hqb).mono ?_
    rintro e w7 ⟨A7, n7, c7, rfl, hok, hb⟩
    replace hL := hL.go hb
    clear hb pX pI x0 x1 x2 x3 r0 r1 r2 r3 r4 r5 r6 r7 r8
    obtain ⟨g, rfl⟩ : ∃ g, gk = g + 1 := ⟨gk - 1, by omega⟩
    unfold seekV at hsk
    cases hnk : nigV ⟨lN, lT, hN, hT, evn⟩ mv ev k with
    | none =>
      have hkx3 : kx < k := Classical.byContradiction fun h' => hns.out k (by omega) hnk
      (try rw [hnk] at hsk)
      (try rw [hnk] at hok)
      replace hsk := Lib.hid hsk
      clear hok
      go_wp2
      go_roundg g
      case measure => omega
      case rel => exact ⟨k - 1, rfl, hsk.out, by omega, by omega, by omega, hL⟩
    | some d =>
      have hd0 := itv_pos (nearV_some hnk).1
      have hdb : d < 10 ^ F := by
        have h5 : flQ mv ev k ≤ hasM mv ev := flQ_le (by omega)
        have h6 := hMF.out
        rcases (nearV_some hnk).2 with h7 | ⟨h7, -⟩ <;> omega
      (try rw [hnk] at hsk)
      (try rw [hnk] at hok)
      replace hok := hok d rfl
      simp only at hsk
      subst hsk
      have hdg := fun (W : World) (h : IsT W (.slice A7 n7 c7) (mm + 1) d) => sdigits_any ng k h (by omega) hd0 F hF hdb ⟨by omega, by omega⟩
      obtain ⟨DD, EE, hSD⟩ : ∃ a b, stripV F d k = (a, b) := ⟨_, _, rfl⟩
      rw [hSD] at hdg
      replace hSD := Lib.hid hSD
      replace hdg := Lib.hid hdg
      clear hdb hnk
      have pV := hL.get (P := pBlk gv #[.int .i64 2, .bool ng, .int .u64 (mv : Nat), .int .i64 ev] 46) (by repeat (first | exact List.mem_cons_self | apply List.mem_cons_of_mem))
      have v1 := pV.cell 1 _ rfl
      go_wp2_with fail
      refine (hdg.out _ hok).mono ?_
      rintro e w8 ⟨A8, n8, c8, rfl, hv8, hb⟩
      have hD := (hL.go hb).get (P := pBlk w.heap.size #[.bool false, .slice none 0 0, .int .i64 0] 51) (by repeat (first | exact List.mem_cons_self | apply List.mem_cons_of_mem))
      have hB8 := (hL.go hb).below
      obtain ⟨q0, q1, q2⟩ := cells3 hD
      have f0 := hD.free 0
      have f1 := hD.free 1
      have f2 := hD.free 2
      obtain ⟨W6, hW6, r6, hk6, hBl⟩ := three_row (b1 := ng) (x1 := A8) (y1 := n8) (z1 := c8) (c1 := EE) hD
      obtain ⟨y0, y1, y2⟩ := cells3 r6
      have hv9 := hk6 _ _ _ hv8
      have hB9 := hB8.trans (hBl w.heap.size (Nat.le_refl _))
      clear hb v1 pV
      go_wp2
      (try rw [hW6])
      rw [hSD.out]
      exact bodyPost_ret (v := .tuple #[.agg #[.bool ng, .slice A8 n8 c8, .int .i64 EE], .int .i64 0]) (by simp [results, Tryz.results24, go_sem, y0, y1, y2]) rfl ⟨A8, n8, c8, rfl, hv9, hB9⟩
end Go.Proofs.YtncfbleeidjflaaGreatDoor
namespace Go.Proofs.YtncfbleeidjflaaGreatDoor
open Go.RowKit Go.Cal
/-- What is not told in digits. -/
def wrdT (c : Int) : List UInt8 := if c = 1 then [48] else if c = 3 then [105, 110, 102] else [110, 97, 110]
/-- The table of words stands in its variable. -/
def WrdW (w : World) : Prop := 0 < w.heap.size ∧ ∃ mv, w.cell? ⟨0, 0, none⟩ = some mv ∧ ∀ wr, Below w.heap.size w wr → ∀ c : Int, (c = 1 ∨ c = 3 ∨ c = 4) → (Instr.lookup 104 mv (.int .i64 c) false).run Tryz.prog wr = .ok (.string (strL (wrdT c))) wr
theorem WrdW.below {w w' : World} (h : WrdW w) (hb : Below w.heap.size w w') : WrdW w' := by
  obtain ⟨h1, mv, h2, h3⟩ := h
  exact ⟨Nat.lt_of_lt_of_le h1 hb.size, mv, by rw [(bcell hb).1 _ _ h1]; exact h2, fun wr hr => h3 wr (hb.trans (hr.mono hb.size))⟩
theorem WrdW.out {w : World} (h : WrdW w) {c : Int} (hc : c = 1 ∨ c = 3 ∨ c = 4) : 0 < w.heap.size ∧ ∃ mv, w.cell? ⟨0, 0, none⟩ = some mv ∧ ∀ wr, Below w.heap.size w wr → (Instr.lookup 104 mv (.int .i64 c) false).run Tryz.prog wr = .ok (.string (strL (wrdT c))) wr := by
  obtain ⟨h1, mv, h2, h3⟩ := h
  exact ⟨h1, mv, h2, fun wr hr => h3 wr hr c hc⟩
/-- The variables that print reads. -/
structure PrW (w : World) : Prop where
  va : VaW w
  tab : Tab10 w
  wrd : WrdW w
theorem PrW.below {w w' : World} (h : PrW w) (hb : Below w.heap.size w w') : PrW w' := ⟨h.va.below hb, h.tab.below hb, h.wrd.below hb⟩
theorem right_lt {N : Nat} {k : Int} (h : DRight N k) : N < 18446744073709551616 ^ 128 := by
  rcases h with ⟨rfl, _⟩ | ⟨_, _, h, _⟩
  · exact Nat.pow_pos (by decide)
  · have h1 := numV_lt (Lib.decDigits N) (dec_digs _)
    rw [numV_dec] at h1
    exact Nat.lt_of_lt_of_le (lt_powF h1 h) (by decide +kernel)
set_option maxRecDepth 100000 in
set_option maxHeartbeats 4000000 in
theorem told_no (k : Nat) (id p : Int) (hp0 : 0 ≤ p) (hp1 : p < 18446744073709551616) (hf : fitsV id p ≠ 0) (w : World) (hW : PrW w) :
    Calls Tryz.prog 23 #[.int .i64 id, .int .u64 p, .func (.func k) #[] #[]] w fun e w' => e = .returned (.tuple #[.string (strL []), .int .i64 (fitsV id p)]) ∧ Below w.heap.size w w' := by
  have hdc := Lib.hid fun w (hW : PrW w) => vdec_no id p hp0 hp1 hf w hW.va
  have hff : (fitsV id p != 0) = true := by simp [hf]
  generalize fitsV id p = E at hdc hff ⊢
  clear hf
  go_enter Tryz.func23, Tryz.ntmps23
  go_wp2_with fail
  refine (hdc.out _ hW).mono ?_
  rintro e w1 ⟨rfl, hb⟩
  go_wp2_with fail
  go_ret2
  exact ⟨(by first | rfl | trivial), hb.alloc hb.size _⟩
set_option maxRecDepth 100000 in
set_option maxHeartbeats 4000000 in
theorem told_fin_short {id p : Int} {ng : Bool} {K mv : Nat} {ev : Int} (h : Fin id p ng K mv ev) (w : World) (hW : PrW w) (r : Nat × Int) (hr : shortV (limV id ng K) mv ev 2000 = r) (hR : DRight r.1 r.2) :
    Calls Tryz.prog 23 #[.int .i64 id, .int .u64 p, .func (.func 24) #[] #[]] w fun e w' => e = .returned (.tuple #[.string (strL (lyT ng r.1 r.2)), .int .i64 0]) ∧ Below w.heap.size w w' := by
  obtain ⟨d1, d2, d3⟩ := h.dec
  have hdc := Lib.hid fun w (hW : PrW w) => vdec_yes id p h.h1 h.h2 h.p0 h.p1 w hW.va
  rw [d1, d2, d3, h.cl] at hdc
  have hsh := Lib.hid fun w (hW : PrW w) => short_yes h w hW.va 2000 (by decide) (by decide) 13000 (by decide) (by decide)
  rw [hr] at hsh
  clear d1 d2 d3 hr h
  obtain ⟨D, E⟩ := r
  go_enter Tryz.func23, Tryz.ntmps23
  go_wp2_with fail
  refine (hdc.out _ hW).mono ?_
  rintro e w1 ⟨rfl, hb⟩
  go_wp2_with fail
  have hB1 : Below w.heap.size w (w1.alloc (.cells #[.int .i64 2, .bool ng, .int .u64 (mv : Nat), .int .i64 ev] 46)) := hb.alloc hb.size _
  refine (hsh.out _ (hW.below hB1)).mono ?_
  rintro e w2 ⟨A, n, c, rfl, hv, hb2⟩
  have hB2 := hB1.trans (hb2.mono hB1.size)
  clear hb hb2
  go_wp2_with fail
  have hB3 : Below w.heap.size w (w2.alloc (.cells #[.bool ng, .slice A n c, .int .i64 E] 51)) := hB2.alloc hB2.size _
  have hv3 := isT_fitX (hv.below ((Below.refl _ _).alloc (Nat.le_refl _) (.cells #[.bool ng, .slice A n c, .int .i64 E] 51))) (right_lt hR)
  refine (layout_any ng E (hW.tab.below hB3) hv3).mono ?_
  rintro e w4 ⟨rfl, hb4⟩
  go_wp2_with fail
  go_ret2
  refine ⟨?_, hB3.trans (hb4.mono hB3.size)⟩
  unfold lyR
  rw [if_pos hR]
  rfl
set_option maxRecDepth 100000 in
set_option maxHeartbeats 4000000 in
theorem told_fin_full {id p : Int} {ng : Bool} {K mv : Nat} {ev : Int} (h : Fin id p ng K mv ev) (w : World) (hW : PrW w) (r : Nat × Int) (hr : fullV mv ev 2000 = r) (hR : DRight r.1 r.2) :
    Calls Tryz.prog 23 #[.int .i64 id, .int .u64 p, .func (.func 29) #[] #[]] w fun e w' => e = .returned (.tuple #[.string (strL (lyT ng r.1 r.2)), .int .i64 0]) ∧ Below w.heap.size w w' := by
  obtain ⟨d1, d2, d3⟩ := h.dec
  have hdc := Lib.hid fun w (hW : PrW w) => vdec_yes id p h.h1 h.h2 h.p0 h.p1 w hW.va
  rw [d1, d2, d3, h.cl] at hdc
  have hsh := Lib.hid fun w (hW : PrW w) => full_yes h w hW.va 2000 (by decide) (by decide)
  rw [hr] at hsh
  clear d1 d2 d3 hr h
  obtain ⟨D, E⟩ := r
  go_enter Tryz.func23, Tryz.ntmps23
  go_wp2_with fail
  refine (hdc.out _ hW).mono ?_
  rintro e w1 ⟨rfl, hb⟩
  go_wp2_with fail
  have hB1 : Below w.heap.size w (w1.alloc (.cells #[.int .i64 2, .bool ng, .int .u64 (mv : Nat), .int .i64 ev] 46)) := hb.alloc hb.size _
  refine (hsh.out _ (hW.below hB1)).mono ?_
  rintro e w2 ⟨A, n, c, rfl, hv, hb2⟩
  have hB2 := hB1.trans (hb2.mono hB1.size)
  clear hb hb2
  go_wp2_with fail
  have hB3 : Below w.heap.size w (w2.alloc (.cells #[.bool ng, .slice A n c, .int .i64 E] 51)) := hB2.alloc hB2.size _
  have hv3 := isT_fitX (hv.below ((Below.refl _ _).alloc (Nat.le_refl _) (.cells #[.bool ng, .slice A n c, .int .i64 E] 51))) (right_lt hR)
  refine (layout_any ng E (hW.tab.below hB3) hv3).mono ?_
  rintro e w4 ⟨rfl, hb4⟩
  go_wp2_with fail
  go_ret2
  refine ⟨?_, hB3.trans (hb4.mono hB3.size)⟩
  unfold lyR
  rw [if_pos hR]
  rfl
theorem wrdT_len (c : Int) : (wrdT c).length ≤ 3 := by
  unfold wrdT
  split
  · simp
  · split <;> simp
theorem neg_cat (l : List UInt8) : (⟨#[45]⟩ : ByteArray) ++ strL l = strL (45 :: l) := by
  unfold strL
  refine ByteArray.ext ?_
  simp
/-- The text of what is no number, or 0. -/
def nfT (id p : Int) : List UInt8 := if classV id p = 4 ∧ fK id = 1 then [78, 97, 82] else if decN id p = true then 45 :: wrdT (classV id p) else wrdT (classV id p)
set_option maxRecDepth 100000 in
set_option maxHeartbeats 4000000 in
theorem told_wrd (k : Nat) {id p : Int} (h1 : 1 ≤ id) (h2 : id < 15) (hp0 : 0 ≤ p) (hp1 : p < 2 ^ (fW id).toNat) (hc : classV id p = 1 ∨ classV id p = 3 ∨ classV id p = 4) (w : World) (hW : PrW w) :
    Calls Tryz.prog 23 #[.int .i64 id, .int .u64 p, .func (.func k) #[] #[]] w fun e w' => e = .returned (.tuple #[.string (strL (nfT id p)), .int .i64 0]) ∧ Below w.heap.size w w' := by
  have hdc := Lib.hid fun w (hW : PrW w) => vdec_yes id p h1 h2 hp0 hp1 w hW.va
  have hfo := Lib.hid fun w (hW : PrW w) => fo_of id w hW.va.frm h1 h2
  have hM : decM id p = 0 := by unfold decM; rw [if_neg (by omega)]
  have hE : decE id p = 0 := by unfold decE; rw [if_neg (by omega)]
  rw [hM, hE] at hdc
  unfold nfT
  have hN : classV id p = 4 → decN id p = false := fun h => by unfold decN; rw [if_pos h]
  clear hM hE hp0 hp1
  generalize decN id p = ng at hdc hN ⊢
  generalize classV id p = cc at hdc hc hN ⊢
  clear h1 h2
  generalize fK id = fk at hfo ⊢
  generalize fW id = fw at hfo
  generalize fM id = fm at hfo
  generalize fB id = fb at hfo
  generalize fT id = ft at hfo
  generalize fI id = fi at hfo
  generalize fN id = fn at hfo
  have hcase : ((cc == 4) = false ∧ ng = true) ∨ ((cc == 4) = false ∧ ng = false) ∨ ((cc == 4) = true ∧ ng = false ∧ (fk == 1) = true) ∨ ((cc == 4) = true ∧ ng = false ∧ (fk == 1) = false) := by
    rcases hc with h | h | h
    · cases ng <;> simp [h]
    · cases ng <;> simp [h]
    · have := hN h
      by_cases hk : fk = 1 <;> simp [h, this, hk]
  have hl0 := Lib.hid fun w (hW : WrdW w) => WrdW.out hW hc
  have hc2 : (cc == 2) = false := by
    rcases hc with rfl | rfl | rfl <;> rfl
  clear hc hN
  rcases hcase with ⟨hc4, rfl⟩ | ⟨hc4, rfl⟩ | ⟨hc4, rfl, hk⟩ | ⟨hc4, rfl, hk⟩
  · rw [show (if cc = 4 ∧ fk = 1 then [78, 97, 82] else if true = true then 45 :: wrdT cc else wrdT cc : List UInt8) = 45 :: wrdT cc by simp_all]
    obtain ⟨t, ht⟩ : ∃ t, strL (wrdT cc) = t := ⟨_, rfl⟩
    obtain ⟨u, hu⟩ : ∃ u, strL (45 :: wrdT cc) = u := ⟨_, rfl⟩
    rw [hu]
    have hcat : ⟨#[45]⟩ ++ t = strL (45 :: wrdT cc) := by rw [← ht]; exact neg_cat _
    have hut : ⟨#[45]⟩ ++ t = u := by first | exact hu | (rw [← hu]; rfl) | (rw [← hu, ← ht]; done) | (rw [hcat, ← hu]; done)
    have hts : ¬ 9223372036854775807 < 1 + t.size := by
      rw [← ht, strL_size]
      have := wrdT_len cc
      omega
    clear hcat
    replace hut := Lib.hid hut
    replace hu := Lib.hid hu
    go_enter Tryz.func23, Tryz.ntmps23
    go_wp2_with fail
    refine (hdc.out _ hW).mono ?_
    rintro e w1 ⟨rfl, hb⟩
    go_wp2_with fail
    have hB1 : Below w.heap.size w (w1.alloc (.cells #[.int .i64 cc, .bool true, .int .u64 0, .int .i64 0] 46)) := hb.alloc hb.size _
    refine (hfo.out _ (hW.below hB1)).mono ?_
    rintro e w2 ⟨rfl, hb2⟩
    have hB2 := hB1.trans (hb2.mono hB1.size)
    obtain ⟨hn1, mv, hn2, hn3⟩ := hl0.out _ (hW.wrd.below hB2)
    have hp := pBlk_st _ _ _ _ _ (pBlk_made w1 #[.int .i64 cc, .bool true, .int .u64 0, .int .i64 0] 46) hb2
    have hz : w1.heap.size < w2.heap.size := by have := hb2.size; simp at this; omega
    have hl := hn3 (w2.alloc (.cells #[.int .i64 fk, .int .i64 fw, .int .i64 fm, .int .i64 fb, .int .u64 ft, .int .u64 fi, .int .u64 fn] 58)) ((Below.refl _ _).alloc (Nat.le_refl _) _)
    rw [ht] at hl
    replace ht := Lib.hid ht
    obtain ⟨q0, q1, -, -⟩ := cells4 hp
    clear hn3 hp hb hb2
    go_wp2_with fail
    exact bodyPost_ret (v := .tuple #[.string (⟨#[45]⟩ ++ t), .int .i64 0]) (by simp [results, Tryz.results23, go_sem]) rfl ⟨by rw [hut.out], hB2.alloc hB2.size _⟩
  · rw [show (if cc = 4 ∧ fk = 1 then [78, 97, 82] else if false = true then 45 :: wrdT cc else wrdT cc : List UInt8) = wrdT cc by simp_all]
    obtain ⟨t, ht⟩ : ∃ t, strL (wrdT cc) = t := ⟨_, rfl⟩
    obtain ⟨u, hu⟩ : ∃ u, strL (wrdT cc) = u := ⟨_, rfl⟩
    rw [hu]
    have hcat : ⟨#[45]⟩ ++ t = strL (45 :: wrdT cc) := by rw [← ht]; exact neg_cat _
    have hut : t = u := by first | exact hu | (rw [← hu]; rfl) | (rw [← hu, ← ht]; done) | (rw [hcat, ← hu]; done)
    have hts : ¬ 9223372036854775807 < 1 + t.size := by
      rw [← ht, strL_size]
      have := wrdT_len cc
      omega
    clear hcat
    replace hut := Lib.hid hut
    replace hu := Lib.hid hu
    go_enter Tryz.func23, Tryz.ntmps23
    go_wp2_with fail
    refine (hdc.out _ hW).mono ?_
    rintro e w1 ⟨rfl, hb⟩
    go_wp2_with fail
    have hB1 : Below w.heap.size w (w1.alloc (.cells #[.int .i64 cc, .bool false, .int .u64 0, .int .i64 0] 46)) := hb.alloc hb.size _
    refine (hfo.out _ (hW.below hB1)).mono ?_
    rintro e w2 ⟨rfl, hb2⟩
    have hB2 := hB1.trans (hb2.mono hB1.size)
    obtain ⟨hn1, mv, hn2, hn3⟩ := hl0.out _ (hW.wrd.below hB2)
    have hp := pBlk_st _ _ _ _ _ (pBlk_made w1 #[.int .i64 cc, .bool false, .int .u64 0, .int .i64 0] 46) hb2
    have hz : w1.heap.size < w2.heap.size := by have := hb2.size; simp at this; omega
    have hl := hn3 (w2.alloc (.cells #[.int .i64 fk, .int .i64 fw, .int .i64 fm, .int .i64 fb, .int .u64 ft, .int .u64 fi, .int .u64 fn] 58)) ((Below.refl _ _).alloc (Nat.le_refl _) _)
    rw [ht] at hl
    replace ht := Lib.hid ht
    obtain ⟨q0, q1, -, -⟩ := cells4 hp
    clear hn3 hp hb hb2
    go_wp2_with fail
    exact bodyPost_ret (v := .tuple #[.string (t), .int .i64 0]) (by simp [results, Tryz.results23, go_sem]) rfl ⟨by rw [hut.out], hB2.alloc hB2.size _⟩
  · rw [show (if cc = 4 ∧ fk = 1 then [78, 97, 82] else if false = true then 45 :: wrdT cc else wrdT cc : List UInt8) = [78, 97, 82] by simp_all]
    obtain ⟨t, ht⟩ : ∃ t, strL (wrdT cc) = t := ⟨_, rfl⟩
    obtain ⟨u, hu⟩ : ∃ u, strL ([78, 97, 82]) = u := ⟨_, rfl⟩
    rw [hu]
    have hcat : ⟨#[45]⟩ ++ t = strL (45 :: wrdT cc) := by rw [← ht]; exact neg_cat _
    have hut : ⟨#[78, 97, 82]⟩ = u := by first | exact hu | (rw [← hu]; rfl) | (rw [← hu, ← ht]; done) | (rw [hcat, ← hu]; done)
    have hts : ¬ 9223372036854775807 < 1 + t.size := by
      rw [← ht, strL_size]
      have := wrdT_len cc
      omega
    clear hcat
    replace hut := Lib.hid hut
    replace hu := Lib.hid hu
    go_enter Tryz.func23, Tryz.ntmps23
    go_wp2_with fail
    refine (hdc.out _ hW).mono ?_
    rintro e w1 ⟨rfl, hb⟩
    go_wp2_with fail
    have hB1 : Below w.heap.size w (w1.alloc (.cells #[.int .i64 cc, .bool false, .int .u64 0, .int .i64 0] 46)) := hb.alloc hb.size _
    refine (hfo.out _ (hW.below hB1)).mono ?_
    rintro e w2 ⟨rfl, hb2⟩
    have hB2 := hB1.trans (hb2.mono hB1.size)
    obtain ⟨hn1, mv, hn2, hn3⟩ := hl0.out _ (hW.wrd.below hB2)
    have hp := pBlk_st _ _ _ _ _ (pBlk_made w1 #[.int .i64 cc, .bool false, .int .u64 0, .int .i64 0] 46) hb2
    have hz : w1.heap.size < w2.heap.size := by have := hb2.size; simp at this; omega
    have hl := hn3 (w2.alloc (.cells #[.int .i64 fk, .int .i64 fw, .int .i64 fm, .int .i64 fb, .int .u64 ft, .int .u64 fi, .int .u64 fn] 58)) ((Below.refl _ _).alloc (Nat.le_refl _) _)
    rw [ht] at hl
    replace ht := Lib.hid ht
    obtain ⟨q0, q1, -, -⟩ := cells4 hp
    clear hn3 hp hb hb2
    go_wp2_with fail
    exact bodyPost_ret (v := .tuple #[.string (⟨#[78, 97, 82]⟩), .int .i64 0]) (by simp [results, Tryz.results23, go_sem]) rfl ⟨by rw [hut.out], hB2.alloc hB2.size _⟩
  · rw [show (if cc = 4 ∧ fk = 1 then [78, 97, 82] else if false = true then 45 :: wrdT cc else wrdT cc : List UInt8) = wrdT cc by simp_all]
    obtain ⟨t, ht⟩ : ∃ t, strL (wrdT cc) = t := ⟨_, rfl⟩
    obtain ⟨u, hu⟩ : ∃ u, strL (wrdT cc) = u := ⟨_, rfl⟩
    rw [hu]
    have hcat : ⟨#[45]⟩ ++ t = strL (45 :: wrdT cc) := by rw [← ht]; exact neg_cat _
    have hut : t = u := by first | exact hu | (rw [← hu]; rfl) | (rw [← hu, ← ht]; done) | (rw [hcat, ← hu]; done)
    have hts : ¬ 9223372036854775807 < 1 + t.size := by
      rw [← ht, strL_size]
      have := wrdT_len cc
      omega
    clear hcat
    replace hut := Lib.hid hut
    replace hu := Lib.hid hu
    go_enter Tryz.func23, Tryz.ntmps23
    go_wp2_with fail
    refine (hdc.out _ hW).mono ?_
    rintro e w1 ⟨rfl, hb⟩
    go_wp2_with fail
    have hB1 : Below w.heap.size w (w1.alloc (.cells #[.int .i64 cc, .bool false, .int .u64 0, .int .i64 0] 46)) := hb.alloc hb.size _
    refine (hfo.out _ (hW.below hB1)).mono ?_
    rintro e w2 ⟨rfl, hb2⟩
    have hB2 := hB1.trans (hb2.mono hB1.size)
    obtain ⟨hn1, mv, hn2, hn3⟩ := hl0.out _ (hW.wrd.below hB2)
    have hp := pBlk_st _ _ _ _ _ (pBlk_made w1 #[.int .i64 cc, .bool false, .int .u64 0, .int .i64 0] 46) hb2
    have hz : w1.heap.size < w2.heap.size := by have := hb2.size; simp at this; omega
    have hl := hn3 (w2.alloc (.cells #[.int .i64 fk, .int .i64 fw, .int .i64 fm, .int .i64 fb, .int .u64 ft, .int .u64 fi, .int .u64 fn] 58)) ((Below.refl _ _).alloc (Nat.le_refl _) _)
    rw [ht] at hl
    replace ht := Lib.hid ht
    obtain ⟨q0, q1, -, -⟩ := cells4 hp
    clear hn3 hp hb hb2
    go_wp2_with fail
    exact bodyPost_ret (v := .tuple #[.string (t), .int .i64 0]) (by simp [results, Tryz.results23, go_sem]) rfl ⟨by rw [hut.out], hB2.alloc hB2.size _⟩
end Go.Proofs.YtncfbleeidjflaaGreatDoor
namespace Go.Proofs.YtncfbleeidjflaaGreatDoor
open Go.RowKit Go.Cal
theorem Fin.lims {id p : Int} {ng : Bool} {K mv : Nat} {ev : Int} (h : Fin id p ng K mv ev) : mostE id ng = 0 ∧ (K : Int) ≤ mostV id ng ∧ (fK id ≠ 4 → 0 < K) ∧ (K : Int) ≤ fitM id := by
  obtain ⟨x1, x2, x3, x4⟩ := class_two h.h1 h.h2 h.p0 h.p1 h.cl
  rw [h.key] at x1 x2 x3
  rw [h.ng] at x2 x4
  refine ⟨?_, x2, fun h4 => by have := x3 h4; omega, x1⟩
  have a1 := h.h1
  have a2 := h.h2
  unfold mostE
  rw [if_neg (by omega), if_neg (fun h => x4 h.1 h.2)]
/-- Where the search stands still, and what Short makes of it. -/
theorem short_some {id p : Int} {ng : Bool} {K mv : Nat} {ev : Int} (h : Fin id p ng K mv ev) :
    ∃ (d : Nat) (k : Int), itvHas (limV id ng K) d k = true ∧ (d = flQ mv ev k ∨ (d = flQ mv ev k + 1 ∧ 0 < flR mv ev k)) ∧ min ev 0 ≤ k ∧ k ≤ 700 ∧ d ≤ hasM mv ev + 1 ∧
      ∀ F, hasM mv ev + 1 < 10 ^ F → ∃ z : Nat, shortV (limV id ng K) mv ev F = (d / 10 ^ z, k + z) ∧ d / 10 ^ z * 10 ^ z = d ∧ d / 10 ^ z % 10 ≠ 0 ∧ z < F := by
  obtain ⟨hE, x2, hK0, -⟩ := h.lims
  obtain ⟨b1, b2, b3, b4⟩ := h.bnd
  have hns := nig_some hE x2 hK0 h.mag
  have hlb := lgV_bnd b1 (by simpa using b2) ⟨b3, b4⟩
  have hlb2 := lgV_ge b1 (by simpa using b2) ⟨b3, b4⟩
  obtain ⟨d, k, e1, e2, e3, e4⟩ := seekV_is 3000 (lgV mv ev) (min ev 0) (by omega) (by decide) hns
  obtain ⟨n1, n2⟩ := nearV_some e2
  have hk : min ev 0 ≤ k := by omega
  have hq := flQ_le (m := mv) (e := ev) hk
  have hd : d ≤ hasM mv ev + 1 := by
    rcases n2 with rfl | ⟨rfl, _⟩
    · omega
    · omega
  refine ⟨d, k, n1, n2, hk, by omega, hd, fun F hF => ?_⟩
  obtain ⟨z, z1, z2, z3, z4⟩ := stripV_is F d k (itv_pos n1) (by omega)
  refine ⟨z, ?_, z2, z3, z4⟩
  unfold shortV
  rw [e1]
  exact z1
theorem right_of {d z : Nat} {k : Int} (h2 : d / 10 ^ z % 10 ≠ 0) (h3 : d < 10 ^ 2000) (hz : z < 2000) (hk : -2000 ≤ k ∧ k ≤ 700) : DRight (d / 10 ^ z) (k + z) := by
  refine .inr ⟨?_, h2, ?_, by omega, by omega⟩
  · rcases Nat.eq_zero_or_pos (d / 10 ^ z) with h | h
    · rw [h] at h2; omega
    · exact h
  · exact (padd_dec 2000 _ (by decide) (Nat.lt_of_le_of_lt (Nat.div_le_self _ _) h3)).2
theorem short_right {id p : Int} {ng : Bool} {K mv : Nat} {ev : Int} (h : Fin id p ng K mv ev) : DRight (shortV (limV id ng K) mv ev 2000).1 (shortV (limV id ng K) mv ev 2000).2 := by
  obtain ⟨b1, b2, b3, b4⟩ := h.bnd
  obtain ⟨d, k, n1, n2, n3, n4, n5, n6⟩ := short_some h
  have hM := (hasM_bnd b2 ⟨b3, b4⟩ (show 1991 ≤ 2000 by decide)).1
  obtain ⟨z, z1, z2, z3, z4⟩ := n6 2000 hM
  rw [z1]
  exact right_of z3 (Nat.lt_of_le_of_lt n5 hM) z4 ⟨by omega, n4⟩
theorem full_right {id p : Int} {ng : Bool} {K mv : Nat} {ev : Int} (h : Fin id p ng K mv ev) : DRight (fullV mv ev 2000).1 (fullV mv ev 2000).2 := by
  obtain ⟨b1, b2, b3, b4⟩ := h.bnd
  have hM := (hasM_bnd b2 ⟨b3, b4⟩ (show 1991 ≤ 2000 by decide)).1
  have hM1 : hasM mv ev < 10 ^ 2000 := Nat.lt_of_succ_lt hM
  obtain ⟨z, z1, z2, z3, z4⟩ := stripV_is 2000 (hasM mv ev) (hasK ev) (hasM_pos b1) hM1
  unfold fullV
  rw [z1]
  refine right_of z3 hM1 z4 ?_
  unfold hasK
  split
  · decide
  · omega
end Go.Proofs.YtncfbleeidjflaaGreatDoor
