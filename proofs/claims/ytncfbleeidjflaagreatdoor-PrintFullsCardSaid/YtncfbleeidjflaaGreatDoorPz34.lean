/- Rounding: Limits, walked. Conditions: the variables that values read. -/
import Derived.Test.YtncfbleeidjflaaGreatDoorPz21
import Derived.Test.YtncfbleeidjflaaGreatDoorPz30
import Derived.Test.YtncfbleeidjflaaGreatDoorPz33
namespace Go.Proofs.YtncfbleeidjflaaGreatDoor
open Go.RowKit Go.Cal
theorem pBlk_drew {s : Nat} {cs : Array Value} {t : TypeId} {w : World} (h : pBlk s cs t w) : pBlk s cs t w.drew := h
theorem isT_nil (w : World) : IsT w (.slice none 0 0) 128 0 := by
  exact ⟨none, 0, [], rfl, .nil, by decide, by decide, by decide, ⟨fun x hx => by simp at hx, fun h => absurd rfl h, rfl⟩⟩
theorem cellsF {w : World} {g : Nat} {a b c d e f h : Value} {t : TypeId} (hp : pBlk g #[a, b, c, d, e, f, h] t w) :
    w.cell? ⟨g, 0, none⟩ = some a ∧ w.cell? ⟨g, 1, none⟩ = some b ∧ w.cell? ⟨g, 2, none⟩ = some c ∧ w.cell? ⟨g, 3, none⟩ = some d ∧ w.cell? ⟨g, 4, none⟩ = some e ∧ w.cell? ⟨g, 5, none⟩ = some f ∧ w.cell? ⟨g, 6, none⟩ = some h :=
  ⟨hp.cell 0 _ rfl, hp.cell 1 _ rfl, hp.cell 2 _ rfl, hp.cell 3 _ rfl, hp.cell 4 _ rfl, hp.cell 5 _ rfl, hp.cell 6 _ rfl⟩
theorem even_bit (K : Nat) (h : K < 18446744073709551616) : (bits BinOp.and IntKind.u64 (K : Int) 1 == 0) = (K % 2 == 0) := by
  have := bits_and_u64_nat K 1 h (by decide)
  rw [show ((1 : Nat) : Int) = 1 from rfl] at this
  rw [this, Nat.and_one_is_mod]
  by_cases h2 : K % 2 = 0
  · rw [h2]; rfl
  · have : K % 2 = 1 := by omega
    rw [this]; rfl
theorem or_some {id : Int} (h1 : 1 ≤ id) (h2 : id < 15) : (bits BinOp.or IntKind.u64 (fI id) (fN id) != 0) = decide (fI id ≠ 0 ∨ fN id ≠ 0) := by
  rcases id_cases h1 h2 with rfl | rfl | rfl | rfl | rfl | rfl | rfl | rfl | rfl | rfl | rfl | rfl | rfl | rfl <;> decide +kernel
theorem behind_ky {id ky : Int} {K : Nat} (h1 : 1 ≤ id) (h2 : id < 15) (hk : (K : Int) ≤ fitM id) (h : ky = (K : Int)) (w : World) (hW : VaW w) :
    Calls Tryz.prog 146 #[.int .i64 id, .int .u64 ky] w fun e w' => ∃ A n c, e = .returned (.agg #[.bool false, .slice A n c, .int .i64 (magV id 1 (2 * K + 1)).2, .int .i64 0]) ∧ IsT w' (.slice A n c) 128 (magV id 1 (2 * K + 1)).1 ∧ Below w.heap.size w w' := by
  subst h
  exact behind_any id h1 h2 K hk w hW
set_option maxRecDepth 100000 in
set_option maxHeartbeats 4000000 in
theorem rlimits_yes (id p : Int) (h1 : 1 ≤ id) (h2 : id < 15) (hp0 : 0 ≤ p) (hp1 : p < 2 ^ (fW id).toNat) (hc : classV id p = 2) (K : Nat) (hK : partK id p = (K : Int)) (w : World) (hW : VaW w) :
    Calls Tryz.prog 67 #[.int .i64 id, .int .u64 p] w fun e w' => ∃ A1 n1 c1 A2 n2 c2, e = .returned (.tuple #[.agg #[.bool false, .slice A1 n1 c1, .int .i64 (limV id (partN id p) K).lowT, .int .i64 0], .agg #[.bool false, .slice A2 n2 c2, .int .i64 (limV id (partN id p) K).highT, .int .i64 0], .bool (limV id (partN id p) K).even, .int .i64 0]) ∧
      IsT w' (.slice A1 n1 c1) 128 (limV id (partN id p) K).lowN ∧ IsT w' (.slice A2 n2 c2) 128 (limV id (partN id p) K).highN ∧ Below w.heap.size w w' := by
  obtain ⟨x1, x2, x3, x4⟩ := class_two h1 h2 hp0 hp1 hc
  have hE : mostE id (partN id p) = 0 := by
    unfold mostE
    rw [if_neg (by omega), if_neg (fun h => x4 h.1 h.2)]
  have hky := fun w hW => vkey_yes id p h1 h2 hp0 hp1 (.inr hc) w hW
  have hms := fun w hW => vmost_any id (partN id p) w hW
  have hmr : mostR id (partN id p) = mostV id (partN id p) := by unfold mostR; rw [if_pos hE]
  rw [hmr, hE] at hms
  rw [hK] at hky x1 x2 x3
  have hof := Lib.hid fun w (hW : VaW w) => fo_of id w hW.frm h1 h2
  have hev := even_bit K (by have := mostV_bnd id (partN id p); omega)
  have hor := or_some h1 h2
  have hbH := Lib.hid fun w hW => behind_any id h1 h2 K x1 w hW
  have hbL := Lib.hid fun (ky : Int) (h : ky = ((K - 1 : Nat) : Int)) w hW => behind_ky h1 h2 (show (((K - 1 : Nat) : Int)) ≤ fitM id by omega) h w hW
  have hKb : (K : Int) < 18446744073709551616 := by have := mostV_bnd id (partN id p); omega
  generalize partN id p = ng at hky hms hE ⊢
  obtain ⟨mv, hmv⟩ : ∃ mv, mostV id ng = mv := ⟨_, rfl⟩
  have hHc : ((K : Int) < mv ∧ limH id ng K = true) ∨ (¬ (K : Int) < mv ∧ (fK id != 1) = true ∧ decide (fI id ≠ 0 ∨ fN id ≠ 0) = true ∧ limH id ng K = true) ∨ (¬ (K : Int) < mv ∧ (fK id != 1) = true ∧ decide (fI id ≠ 0 ∨ fN id ≠ 0) = false ∧ limH id ng K = false) ∨ (¬ (K : Int) < mv ∧ (fK id != 1) = false ∧ limH id ng K = false) := by
    unfold limH
    rw [hmv]
    by_cases a : (K : Int) < mv
    · left; exact ⟨a, by simp [a]⟩
    · by_cases b : fK id = 1
      · right; right; right; exact ⟨a, by simp [b], by simp [a, b]⟩
      · by_cases d : fI id ≠ 0 ∨ fN id ≠ 0
        · right; left; exact ⟨a, by simp [b], decide_eq_true d, by rw [Bool.or_eq_true]; right; exact decide_eq_true ⟨b, d⟩⟩
        · right; right; left; exact ⟨a, by simp [b], decide_eq_false d, by rw [Bool.or_eq_false_iff]; exact ⟨decide_eq_false a, decide_eq_false fun h => d h.2⟩⟩
  have hz0 : K ≠ 0 → ((K : Int) == 0) = false := fun h => by simp; exact h
  have hLc : ((fK id == 1) = true ∧ ¬ (K : Int) < 2 ∧ limF id ≤ K ∧ ((K : Int) == 0) = false) ∨ ((fK id == 1) = true ∧ (K : Int) < 2 ∧ ¬ limF id ≤ K ∧ ((K : Int) == 0) = false) ∨ ((fK id == 1) = false ∧ ¬ (K : Int) < 1 ∧ limF id ≤ K ∧ ((K : Int) == 0) = false) ∨ ((fK id == 1) = false ∧ (K : Int) < 1 ∧ ¬ limF id ≤ K ∧ ((K : Int) == 0) = true ∧ (fK id != 4) = false) := by
    unfold limF
    by_cases a : fK id = 1
    · rw [if_pos a]
      have hK0 := hz0 (by have := x3 (by omega); omega)
      by_cases b : (K : Int) < 2
      · right; left; exact ⟨by simp [a], b, by omega, hK0⟩
      · left; exact ⟨by simp [a], b, by omega, hK0⟩
    · rw [if_neg a]
      by_cases b : (K : Int) < 1
      · right; right; right
        refine ⟨by simp [a], b, by omega, by simp; omega, ?_⟩
        simp
        exact Classical.byContradiction fun h => x3 h (by omega)
      · right; right; left; exact ⟨by simp [a], b, by omega, hz0 (by omega)⟩
  obtain ⟨ob, hob⟩ : ∃ ob, decide (fI id ≠ 0 ∨ fN id ≠ 0) = ob := ⟨_, rfl⟩
  rw [hob] at hor hHc
  clear hob
  rw [hmv] at hms
  have hLT : limV id ng K = ⟨if limF id ≤ K then (magV id 1 (2 * (K - 1) + 1)).1 else 0, if limF id ≤ K then (magV id 1 (2 * (K - 1) + 1)).2 else 0,
    if limH id ng K = true then (magV id 1 (2 * K + 1)).1 else 0, if limH id ng K = true then (magV id 1 (2 * K + 1)).2 else 0, K % 2 == 0⟩ := rfl
  rw [hLT]
  clear hLT
  generalize limH id ng K = lh at hHc ⊢
  generalize limF id = lf at hLc ⊢
  generalize magV id 1 (2 * K + 1) = mh at hbH ⊢
  generalize magV id 1 (2 * (K - 1) + 1) = ml at hbL ⊢
  obtain ⟨mhN, mhT⟩ := mh
  obtain ⟨mlN, mlT⟩ := ml
  generalize (K % 2 == 0) = ev at hev ⊢
  obtain ⟨ky, hkK⟩ : ∃ ky : Int, (K : Int) = ky := ⟨_, rfl⟩
  have hk0 : 0 ≤ ky := by omega
  have hkm : ∀ x : Int, 1 ≤ ky → x = ky - 1 → x = ((K - 1 : Nat) : Int) := fun x h h2 => by omega
  rw [hkK] at hky hHc hLc hbH hev hKb
  replace hkm := Lib.hid hkm
  replace hkK := Lib.hid hkK
  replace hky := Lib.hid hky
  replace hms := Lib.hid hms
  clear x1 x2 x3 x4 hE hmr hK hc hp0 hp1 hmv hz0
  have hL := boxes2 w #[.bool false, .slice none 0 0, .int .i64 0, .int .i64 0] #[.bool false, .slice none 0 0, .int .i64 0, .int .i64 0] 71
  have hnil := fun (W : World) => isT_nil W
  rcases hLc with ⟨l1, l2, l3, z1⟩ | ⟨l1, l2, l3, z1⟩ | ⟨l1, l2, l3, z1⟩ | ⟨l1, l2, l3, z1, z2⟩
  · rw [if_pos l3, if_pos l3]
    rcases hHc with ⟨g1, rfl⟩ | ⟨g1, g2, rfl, rfl⟩ | ⟨g1, g2, rfl, rfl⟩ | ⟨g1, g2, rfl⟩
    · rw [if_pos (by decide), if_pos (by decide)]
      go_enter Tryz.func67, Tryz.ntmps67
      go_wp2_with fail
      refine (hky.out _ (hW.below hL.below)).mono ?_
      rintro e u1 ⟨rfl, hb⟩
      have hL1 := hL.go hb
      have hL1s := hb.size
      clear hb
      go_wp2_with fail
      refine (hof.out _ (hW.below hL1.below)).mono ?_
      rintro e u2 ⟨rfl, hb⟩
      replace hL1s := Nat.le_trans hL1s hb.size
      have hL2 := ((hL1.go hb).go ((Below.refl _ _).alloc (Nat.le_refl _) (.cells #[.int .i64 (fK id), .int .i64 (fW id), .int .i64 (fM id), .int .i64 (fB id), .int .u64 (fT id), .int .u64 (fI id), .int .u64 (fN id)] 58))).put (pBlk_st _ _ _) (pBlk_made u2 #[.int .i64 (fK id), .int .i64 (fW id), .int .i64 (fM id), .int .i64 (fB id), .int .u64 (fT id), .int .u64 (fI id), .int .u64 (fN id)] 58)
      clear hb hL1
      go_wp2_with fail
      refine (hms.out _ (hW.below hL2.below)).mono ?_
      rintro e u3 ⟨rfl, hb⟩
      have hL3 := hL2.go hb
      have hgf : w.heap.size + 1 < u2.heap.size := by
        have := hL1s
        simp at this
        omega
      clear hb hL2
      have pl := hL3.get (P := pBlk w.heap.size #[.bool false, .slice none 0 0, .int .i64 0, .int .i64 0] 71) (by repeat (first | exact List.mem_cons_self | apply List.mem_cons_of_mem))
      have ph := hL3.get (P := pBlk (w.heap.size + 1) #[.bool false, .slice none 0 0, .int .i64 0, .int .i64 0] 71) (by repeat (first | exact List.mem_cons_self | apply List.mem_cons_of_mem))
      have pf := hL3.get (P := pBlk u2.heap.size #[.int .i64 (fK id), .int .i64 (fW id), .int .i64 (fM id), .int .i64 (fB id), .int .u64 (fT id), .int .u64 (fI id), .int .u64 (fN id)] 58) (by repeat (first | exact List.mem_cons_self | apply List.mem_cons_of_mem))
      have B := hL3.below
      clear hL3
      obtain ⟨gf, hgF⟩ : ∃ g, u2.heap.size = g := ⟨_, rfl⟩
      rw [hgF] at pf hgf ⊢
      clear hgF
      obtain ⟨c0, c1', c2', c3, c4, c5, c6⟩ := cellsF pf
      go_wp2_with fail
      refine (hbL.out _ (hkm.out _ (by omega) rfl) _ (hW.below B)).mono ?_
      rintro e u4 ⟨A1, n1, c1, rfl, hv1, hb⟩
      replace pl := pBlk_st _ _ _ _ _ pl hb
      replace ph := pBlk_st _ _ _ _ _ ph hb
      replace pf := pBlk_st _ _ _ _ _ pf hb
      replace B := B.trans (hb.mono B.size)
      clear hb c0 c1' c2' c3 c4 c5 c6
      go_wp2_with ((with_reducible show wpList _ _ _ (Oper.mk _ (Op.store 71 _ _) _ _ _ _ :: _) _ _); refine wpList_store_each _ rfl 71 _ _ rfl w.heap.size #[.bool false, .slice A1 n1 c1, .int .i64 mlT, .int .i64 0] #[.bool false, .slice none 0 0, .int .i64 0, .int .i64 0] 71 rfl rfl pl exact_size rfl (by simp [Value.oneCell']) (noU4 _ _ _ _ _ _) ?_; intro u5 pl5 hb5 hz5 hk5 ho5; have ph5 := ho5 _ _ _ (by omega) ph; have pf5 := ho5 _ _ _ (by omega) pf; obtain ⟨c0, c1', c2', c3, c4, c5, c6⟩ := cellsF pf5)
      refine (hbH.out _ (hW.below (B.trans hb5))).mono ?_
      rintro e u6 ⟨A2, n2, c2, rfl, hv2, hb⟩
      have pl6 := pBlk_st _ _ _ _ _ pl5 hb
      have ph6 := pBlk_st _ _ _ _ _ ph5 hb
      have hv16 := (hk5 _ _ _ hv1).below hb
      have B6 := (B.trans hb5).trans (hb.mono (B.trans hb5).size)
      clear hb c0 c1' c2' c3 c4 c5 c6
      go_wp2_with ((with_reducible show wpList _ _ _ (Oper.mk _ (Op.store 71 _ _) _ _ _ _ :: _) _ _); refine wpList_store_each _ rfl 71 _ _ rfl (w.heap.size + 1) #[.bool false, .slice A2 n2 c2, .int .i64 mhT, .int .i64 0] #[.bool false, .slice none 0 0, .int .i64 0, .int .i64 0] 71 rfl rfl ph6 exact_size rfl (by simp [Value.oneCell']) (noU4 _ _ _ _ _ _) ?_; intro u7 ph7 hb7 hz7 hk7 ho7; have pl7 := ho7 _ _ _ (by omega) pl6)
      have pl7' : pBlk _ _ _ _ := pl7
      have ph7' : pBlk _ _ _ _ := ph7
      have dl := pBlk_drew pl7
      have dh := pBlk_drew ph7
      obtain ⟨q0, q1, q2, q3⟩ := cells4 dl
      obtain ⟨r0, r1, r2, r3⟩ := cells4 dh
      obtain ⟨q0', q1', q2', q3'⟩ := cells4 pl7
      obtain ⟨r0', r1', r2', r3'⟩ := cells4 ph7
      have e0 := pl7'.free 0
      have e1 := pl7'.free 1
      have e2 := pl7'.free 2
      have e3 := pl7'.free 3
      have d0 := ph7'.free 0
      have d1 := ph7'.free 1
      have d2 := ph7'.free 2
      have d3 := ph7'.free 3
      have f0 := dl.free 0
      have f1 := dl.free 1
      have f2 := dl.free 2
      have f3 := dl.free 3
      have g0' := dh.free 0
      have g1' := dh.free 1
      have g2' := dh.free 2
      have g3' := dh.free 3
      obtain ⟨s0, s1, s2, s3⟩ := self4 pl7'
      obtain ⟨t0, t1, t2, t3⟩ := self4 ph7'
      (try dsimp only [Act.put])
      go_region
      all_goals
        go_wp2
        (try simp only [s0, s1, s2, s3, t0, t1, t2, t3])
        exact bodyPost_ret (v := .tuple #[.agg #[.bool false, .slice A1 n1 c1, .int .i64 mlT, .int .i64 0], .agg #[.bool false, .slice A2 n2 c2, .int .i64 mhT, .int .i64 0], .bool ev, .int .i64 0]) (by simp [results, Tryz.results67, go_sem, q0', q1', q2', q3', r0', r1', r2', r3']) rfl ⟨_, _, _, _, _, _, rfl, (hk7 _ _ _ hv16).below (Below.refl _ _).drew, (hk7 _ _ _ hv2).below (Below.refl _ _).drew, (B6.trans (hb7.mono (by omega))).trans (Below.refl _ _).drew⟩
    · exfalso
      unfold bne at g2
      rw [l1] at g2
      cases g2
    · exfalso
      unfold bne at g2
      rw [l1] at g2
      cases g2
    · rw [if_neg (by decide), if_neg (by decide)]
      go_enter Tryz.func67, Tryz.ntmps67
      go_wp2_with fail
      refine (hky.out _ (hW.below hL.below)).mono ?_
      rintro e u1 ⟨rfl, hb⟩
      have hL1 := hL.go hb
      have hL1s := hb.size
      clear hb
      go_wp2_with fail
      refine (hof.out _ (hW.below hL1.below)).mono ?_
      rintro e u2 ⟨rfl, hb⟩
      replace hL1s := Nat.le_trans hL1s hb.size
      have hL2 := ((hL1.go hb).go ((Below.refl _ _).alloc (Nat.le_refl _) (.cells #[.int .i64 (fK id), .int .i64 (fW id), .int .i64 (fM id), .int .i64 (fB id), .int .u64 (fT id), .int .u64 (fI id), .int .u64 (fN id)] 58))).put (pBlk_st _ _ _) (pBlk_made u2 #[.int .i64 (fK id), .int .i64 (fW id), .int .i64 (fM id), .int .i64 (fB id), .int .u64 (fT id), .int .u64 (fI id), .int .u64 (fN id)] 58)
      clear hb hL1
      go_wp2_with fail
      refine (hms.out _ (hW.below hL2.below)).mono ?_
      rintro e u3 ⟨rfl, hb⟩
      have hL3 := hL2.go hb
      have hgf : w.heap.size + 1 < u2.heap.size := by
        have := hL1s
        simp at this
        omega
      clear hb hL2
      have pl := hL3.get (P := pBlk w.heap.size #[.bool false, .slice none 0 0, .int .i64 0, .int .i64 0] 71) (by repeat (first | exact List.mem_cons_self | apply List.mem_cons_of_mem))
      have ph := hL3.get (P := pBlk (w.heap.size + 1) #[.bool false, .slice none 0 0, .int .i64 0, .int .i64 0] 71) (by repeat (first | exact List.mem_cons_self | apply List.mem_cons_of_mem))
      have pf := hL3.get (P := pBlk u2.heap.size #[.int .i64 (fK id), .int .i64 (fW id), .int .i64 (fM id), .int .i64 (fB id), .int .u64 (fT id), .int .u64 (fI id), .int .u64 (fN id)] 58) (by repeat (first | exact List.mem_cons_self | apply List.mem_cons_of_mem))
      have B := hL3.below
      clear hL3
      obtain ⟨gf, hgF⟩ : ∃ g, u2.heap.size = g := ⟨_, rfl⟩
      rw [hgF] at pf hgf ⊢
      clear hgF
      obtain ⟨c0, c1', c2', c3, c4, c5, c6⟩ := cellsF pf
      go_wp2_with fail
      refine (hbL.out _ (hkm.out _ (by omega) rfl) _ (hW.below B)).mono ?_
      rintro e u4 ⟨A1, n1, c1, rfl, hv1, hb⟩
      replace pl := pBlk_st _ _ _ _ _ pl hb
      replace ph := pBlk_st _ _ _ _ _ ph hb
      replace pf := pBlk_st _ _ _ _ _ pf hb
      replace B := B.trans (hb.mono B.size)
      clear hb c0 c1' c2' c3 c4 c5 c6
      go_wp2_with ((with_reducible show wpList _ _ _ (Oper.mk _ (Op.store 71 _ _) _ _ _ _ :: _) _ _); refine wpList_store_each _ rfl 71 _ _ rfl w.heap.size #[.bool false, .slice A1 n1 c1, .int .i64 mlT, .int .i64 0] #[.bool false, .slice none 0 0, .int .i64 0, .int .i64 0] 71 rfl rfl pl exact_size rfl (by simp [Value.oneCell']) (noU4 _ _ _ _ _ _) ?_; intro u5 pl5 hb5 hz5 hk5 ho5; have ph5 := ho5 _ _ _ (by omega) ph; have pf5 := ho5 _ _ _ (by omega) pf; obtain ⟨c0, c1', c2', c3, c4, c5, c6⟩ := cellsF pf5)
      have pl5' : pBlk _ _ _ _ := pl5
      have ph5' : pBlk _ _ _ _ := ph5
      have dl := pBlk_drew pl5
      have dh := pBlk_drew ph5
      obtain ⟨q0, q1, q2, q3⟩ := cells4 dl
      obtain ⟨r0, r1, r2, r3⟩ := cells4 dh
      obtain ⟨q0', q1', q2', q3'⟩ := cells4 pl5
      obtain ⟨r0', r1', r2', r3'⟩ := cells4 ph5
      have e0 := pl5'.free 0
      have e1 := pl5'.free 1
      have e2 := pl5'.free 2
      have e3 := pl5'.free 3
      have d0 := ph5'.free 0
      have d1 := ph5'.free 1
      have d2 := ph5'.free 2
      have d3 := ph5'.free 3
      have f0 := dl.free 0
      have f1 := dl.free 1
      have f2 := dl.free 2
      have f3 := dl.free 3
      have g0' := dh.free 0
      have g1' := dh.free 1
      have g2' := dh.free 2
      have g3' := dh.free 3
      obtain ⟨s0, s1, s2, s3⟩ := self4 pl5'
      obtain ⟨t0, t1, t2, t3⟩ := self4 ph5'
      (try dsimp only [Act.put])
      go_region
      all_goals
        go_wp2
        (try simp only [s0, s1, s2, s3, t0, t1, t2, t3])
        exact bodyPost_ret (v := .tuple #[.agg #[.bool false, .slice A1 n1 c1, .int .i64 mlT, .int .i64 0], .agg #[.bool false, .slice none 0 0, .int .i64 0, .int .i64 0], .bool ev, .int .i64 0]) (by simp [results, Tryz.results67, go_sem, q0', q1', q2', q3', r0', r1', r2', r3']) rfl ⟨_, _, _, _, _, _, rfl, (hk5 _ _ _ hv1).below (Below.refl _ _).drew, (hnil _).below (Below.refl _ _).drew, (B.trans hb5).trans (Below.refl _ _).drew⟩
  · rw [if_neg l3, if_neg l3]
    rcases hHc with ⟨g1, rfl⟩ | ⟨g1, g2, rfl, rfl⟩ | ⟨g1, g2, rfl, rfl⟩ | ⟨g1, g2, rfl⟩
    · rw [if_pos (by decide), if_pos (by decide)]
      go_enter Tryz.func67, Tryz.ntmps67
      go_wp2_with fail
      refine (hky.out _ (hW.below hL.below)).mono ?_
      rintro e u1 ⟨rfl, hb⟩
      have hL1 := hL.go hb
      have hL1s := hb.size
      clear hb
      go_wp2_with fail
      refine (hof.out _ (hW.below hL1.below)).mono ?_
      rintro e u2 ⟨rfl, hb⟩
      replace hL1s := Nat.le_trans hL1s hb.size
      have hL2 := ((hL1.go hb).go ((Below.refl _ _).alloc (Nat.le_refl _) (.cells #[.int .i64 (fK id), .int .i64 (fW id), .int .i64 (fM id), .int .i64 (fB id), .int .u64 (fT id), .int .u64 (fI id), .int .u64 (fN id)] 58))).put (pBlk_st _ _ _) (pBlk_made u2 #[.int .i64 (fK id), .int .i64 (fW id), .int .i64 (fM id), .int .i64 (fB id), .int .u64 (fT id), .int .u64 (fI id), .int .u64 (fN id)] 58)
      clear hb hL1
      go_wp2_with fail
      refine (hms.out _ (hW.below hL2.below)).mono ?_
      rintro e u3 ⟨rfl, hb⟩
      have hL3 := hL2.go hb
      have hgf : w.heap.size + 1 < u2.heap.size := by
        have := hL1s
        simp at this
        omega
      clear hb hL2
      have pl := hL3.get (P := pBlk w.heap.size #[.bool false, .slice none 0 0, .int .i64 0, .int .i64 0] 71) (by repeat (first | exact List.mem_cons_self | apply List.mem_cons_of_mem))
      have ph := hL3.get (P := pBlk (w.heap.size + 1) #[.bool false, .slice none 0 0, .int .i64 0, .int .i64 0] 71) (by repeat (first | exact List.mem_cons_self | apply List.mem_cons_of_mem))
      have pf := hL3.get (P := pBlk u2.heap.size #[.int .i64 (fK id), .int .i64 (fW id), .int .i64 (fM id), .int .i64 (fB id), .int .u64 (fT id), .int .u64 (fI id), .int .u64 (fN id)] 58) (by repeat (first | exact List.mem_cons_self | apply List.mem_cons_of_mem))
      have B := hL3.below
      clear hL3
      obtain ⟨gf, hgF⟩ : ∃ g, u2.heap.size = g := ⟨_, rfl⟩
      rw [hgF] at pf hgf ⊢
      clear hgF
      obtain ⟨c0, c1', c2', c3, c4, c5, c6⟩ := cellsF pf
      go_wp2_with fail
      refine (hbH.out _ (hW.below (B))).mono ?_
      rintro e u6 ⟨A2, n2, c2, rfl, hv2, hb⟩
      have pl6 := pBlk_st _ _ _ _ _ pl hb
      have ph6 := pBlk_st _ _ _ _ _ ph hb
      have hv16 := (hnil u3).below hb
      have B6 := (B).trans (hb.mono (B).size)
      clear hb c0 c1' c2' c3 c4 c5 c6
      go_wp2_with ((with_reducible show wpList _ _ _ (Oper.mk _ (Op.store 71 _ _) _ _ _ _ :: _) _ _); refine wpList_store_each _ rfl 71 _ _ rfl (w.heap.size + 1) #[.bool false, .slice A2 n2 c2, .int .i64 mhT, .int .i64 0] #[.bool false, .slice none 0 0, .int .i64 0, .int .i64 0] 71 rfl rfl ph6 exact_size rfl (by simp [Value.oneCell']) (noU4 _ _ _ _ _ _) ?_; intro u7 ph7 hb7 hz7 hk7 ho7; have pl7 := ho7 _ _ _ (by omega) pl6)
      have pl7' : pBlk _ _ _ _ := pl7
      have ph7' : pBlk _ _ _ _ := ph7
      have dl := pBlk_drew pl7
      have dh := pBlk_drew ph7
      obtain ⟨q0, q1, q2, q3⟩ := cells4 dl
      obtain ⟨r0, r1, r2, r3⟩ := cells4 dh
      obtain ⟨q0', q1', q2', q3'⟩ := cells4 pl7
      obtain ⟨r0', r1', r2', r3'⟩ := cells4 ph7
      have e0 := pl7'.free 0
      have e1 := pl7'.free 1
      have e2 := pl7'.free 2
      have e3 := pl7'.free 3
      have d0 := ph7'.free 0
      have d1 := ph7'.free 1
      have d2 := ph7'.free 2
      have d3 := ph7'.free 3
      have f0 := dl.free 0
      have f1 := dl.free 1
      have f2 := dl.free 2
      have f3 := dl.free 3
      have g0' := dh.free 0
      have g1' := dh.free 1
      have g2' := dh.free 2
      have g3' := dh.free 3
      obtain ⟨s0, s1, s2, s3⟩ := self4 pl7'
      obtain ⟨t0, t1, t2, t3⟩ := self4 ph7'
      (try dsimp only [Act.put])
      go_region
      all_goals
        go_wp2
        (try simp only [s0, s1, s2, s3, t0, t1, t2, t3])
        exact bodyPost_ret (v := .tuple #[.agg #[.bool false, .slice none 0 0, .int .i64 0, .int .i64 0], .agg #[.bool false, .slice A2 n2 c2, .int .i64 mhT, .int .i64 0], .bool ev, .int .i64 0]) (by simp [results, Tryz.results67, go_sem, q0', q1', q2', q3', r0', r1', r2', r3']) rfl ⟨_, _, _, _, _, _, rfl, (hnil _).below (Below.refl _ _).drew, (hk7 _ _ _ hv2).below (Below.refl _ _).drew, (B6.trans (hb7.mono (by omega))).trans (Below.refl _ _).drew⟩
    · exfalso
      unfold bne at g2
      rw [l1] at g2
      cases g2
    · exfalso
      unfold bne at g2
      rw [l1] at g2
      cases g2
    · rw [if_neg (by decide), if_neg (by decide)]
      go_enter Tryz.func67, Tryz.ntmps67
      go_wp2_with fail
      refine (hky.out _ (hW.below hL.below)).mono ?_
      rintro e u1 ⟨rfl, hb⟩
      have hL1 := hL.go hb
      have hL1s := hb.size
      clear hb
      go_wp2_with fail
      refine (hof.out _ (hW.below hL1.below)).mono ?_
      rintro e u2 ⟨rfl, hb⟩
      replace hL1s := Nat.le_trans hL1s hb.size
      have hL2 := ((hL1.go hb).go ((Below.refl _ _).alloc (Nat.le_refl _) (.cells #[.int .i64 (fK id), .int .i64 (fW id), .int .i64 (fM id), .int .i64 (fB id), .int .u64 (fT id), .int .u64 (fI id), .int .u64 (fN id)] 58))).put (pBlk_st _ _ _) (pBlk_made u2 #[.int .i64 (fK id), .int .i64 (fW id), .int .i64 (fM id), .int .i64 (fB id), .int .u64 (fT id), .int .u64 (fI id), .int .u64 (fN id)] 58)
      clear hb hL1
      go_wp2_with fail
      refine (hms.out _ (hW.below hL2.below)).mono ?_
      rintro e u3 ⟨rfl, hb⟩
      have hL3 := hL2.go hb
      have hgf : w.heap.size + 1 < u2.heap.size := by
        have := hL1s
        simp at this
        omega
      clear hb hL2
      have pl := hL3.get (P := pBlk w.heap.size #[.bool false, .slice none 0 0, .int .i64 0, .int .i64 0] 71) (by repeat (first | exact List.mem_cons_self | apply List.mem_cons_of_mem))
      have ph := hL3.get (P := pBlk (w.heap.size + 1) #[.bool false, .slice none 0 0, .int .i64 0, .int .i64 0] 71) (by repeat (first | exact List.mem_cons_self | apply List.mem_cons_of_mem))
      have pf := hL3.get (P := pBlk u2.heap.size #[.int .i64 (fK id), .int .i64 (fW id), .int .i64 (fM id), .int .i64 (fB id), .int .u64 (fT id), .int .u64 (fI id), .int .u64 (fN id)] 58) (by repeat (first | exact List.mem_cons_self | apply List.mem_cons_of_mem))
      have B := hL3.below
      clear hL3
      obtain ⟨gf, hgF⟩ : ∃ g, u2.heap.size = g := ⟨_, rfl⟩
      rw [hgF] at pf hgf ⊢
      clear hgF
      obtain ⟨c0, c1', c2', c3, c4, c5, c6⟩ := cellsF pf
      go_wp2_with fail
      have pl' : pBlk _ _ _ _ := pl
      have ph' : pBlk _ _ _ _ := ph
      have dl := pBlk_drew pl
      have dh := pBlk_drew ph
      obtain ⟨q0, q1, q2, q3⟩ := cells4 dl
      obtain ⟨r0, r1, r2, r3⟩ := cells4 dh
      obtain ⟨q0', q1', q2', q3'⟩ := cells4 pl
      obtain ⟨r0', r1', r2', r3'⟩ := cells4 ph
      have e0 := pl'.free 0
      have e1 := pl'.free 1
      have e2 := pl'.free 2
      have e3 := pl'.free 3
      have d0 := ph'.free 0
      have d1 := ph'.free 1
      have d2 := ph'.free 2
      have d3 := ph'.free 3
      have f0 := dl.free 0
      have f1 := dl.free 1
      have f2 := dl.free 2
      have f3 := dl.free 3
      have g0' := dh.free 0
      have g1' := dh.free 1
      have g2' := dh.free 2
      have g3' := dh.free 3
      obtain ⟨s0, s1, s2, s3⟩ := self4 pl'
      obtain ⟨t0, t1, t2, t3⟩ := self4 ph'
      (try dsimp only [Act.put])
      go_region
      all_goals
        go_wp2
        (try simp only [s0, s1, s2, s3, t0, t1, t2, t3])
        exact bodyPost_ret (v := .tuple #[.agg #[.bool false, .slice none 0 0, .int .i64 0, .int .i64 0], .agg #[.bool false, .slice none 0 0, .int .i64 0, .int .i64 0], .bool ev, .int .i64 0]) (by simp [results, Tryz.results67, go_sem, q0', q1', q2', q3', r0', r1', r2', r3']) rfl ⟨_, _, _, _, _, _, rfl, (hnil _).below (Below.refl _ _).drew, (hnil _).below (Below.refl _ _).drew, (B).trans (Below.refl _ _).drew⟩
  · rw [if_pos l3, if_pos l3]
    rcases hHc with ⟨g1, rfl⟩ | ⟨g1, g2, rfl, rfl⟩ | ⟨g1, g2, rfl, rfl⟩ | ⟨g1, g2, rfl⟩
    · rw [if_pos (by decide), if_pos (by decide)]
      go_enter Tryz.func67, Tryz.ntmps67
      go_wp2_with fail
      refine (hky.out _ (hW.below hL.below)).mono ?_
      rintro e u1 ⟨rfl, hb⟩
      have hL1 := hL.go hb
      have hL1s := hb.size
      clear hb
      go_wp2_with fail
      refine (hof.out _ (hW.below hL1.below)).mono ?_
      rintro e u2 ⟨rfl, hb⟩
      replace hL1s := Nat.le_trans hL1s hb.size
      have hL2 := ((hL1.go hb).go ((Below.refl _ _).alloc (Nat.le_refl _) (.cells #[.int .i64 (fK id), .int .i64 (fW id), .int .i64 (fM id), .int .i64 (fB id), .int .u64 (fT id), .int .u64 (fI id), .int .u64 (fN id)] 58))).put (pBlk_st _ _ _) (pBlk_made u2 #[.int .i64 (fK id), .int .i64 (fW id), .int .i64 (fM id), .int .i64 (fB id), .int .u64 (fT id), .int .u64 (fI id), .int .u64 (fN id)] 58)
      clear hb hL1
      go_wp2_with fail
      refine (hms.out _ (hW.below hL2.below)).mono ?_
      rintro e u3 ⟨rfl, hb⟩
      have hL3 := hL2.go hb
      have hgf : w.heap.size + 1 < u2.heap.size := by
        have := hL1s
        simp at this
        omega
      clear hb hL2
      have pl := hL3.get (P := pBlk w.heap.size #[.bool false, .slice none 0 0, .int .i64 0, .int .i64 0] 71) (by repeat (first | exact List.mem_cons_self | apply List.mem_cons_of_mem))
      have ph := hL3.get (P := pBlk (w.heap.size + 1) #[.bool false, .slice none 0 0, .int .i64 0, .int .i64 0] 71) (by repeat (first | exact List.mem_cons_self | apply List.mem_cons_of_mem))
      have pf := hL3.get (P := pBlk u2.heap.size #[.int .i64 (fK id), .int .i64 (fW id), .int .i64 (fM id), .int .i64 (fB id), .int .u64 (fT id), .int .u64 (fI id), .int .u64 (fN id)] 58) (by repeat (first | exact List.mem_cons_self | apply List.mem_cons_of_mem))
      have B := hL3.below
      clear hL3
      obtain ⟨gf, hgF⟩ : ∃ g, u2.heap.size = g := ⟨_, rfl⟩
      rw [hgF] at pf hgf ⊢
      clear hgF
      obtain ⟨c0, c1', c2', c3, c4, c5, c6⟩ := cellsF pf
      go_wp2_with fail
      refine (hbL.out _ (hkm.out _ (by omega) rfl) _ (hW.below B)).mono ?_
      rintro e u4 ⟨A1, n1, c1, rfl, hv1, hb⟩
      replace pl := pBlk_st _ _ _ _ _ pl hb
      replace ph := pBlk_st _ _ _ _ _ ph hb
      replace pf := pBlk_st _ _ _ _ _ pf hb
      replace B := B.trans (hb.mono B.size)
      clear hb c0 c1' c2' c3 c4 c5 c6
      go_wp2_with ((with_reducible show wpList _ _ _ (Oper.mk _ (Op.store 71 _ _) _ _ _ _ :: _) _ _); refine wpList_store_each _ rfl 71 _ _ rfl w.heap.size #[.bool false, .slice A1 n1 c1, .int .i64 mlT, .int .i64 0] #[.bool false, .slice none 0 0, .int .i64 0, .int .i64 0] 71 rfl rfl pl exact_size rfl (by simp [Value.oneCell']) (noU4 _ _ _ _ _ _) ?_; intro u5 pl5 hb5 hz5 hk5 ho5; have ph5 := ho5 _ _ _ (by omega) ph; have pf5 := ho5 _ _ _ (by omega) pf; obtain ⟨c0, c1', c2', c3, c4, c5, c6⟩ := cellsF pf5)
      refine (hbH.out _ (hW.below (B.trans hb5))).mono ?_
      rintro e u6 ⟨A2, n2, c2, rfl, hv2, hb⟩
      have pl6 := pBlk_st _ _ _ _ _ pl5 hb
      have ph6 := pBlk_st _ _ _ _ _ ph5 hb
      have hv16 := (hk5 _ _ _ hv1).below hb
      have B6 := (B.trans hb5).trans (hb.mono (B.trans hb5).size)
      clear hb c0 c1' c2' c3 c4 c5 c6
      go_wp2_with ((with_reducible show wpList _ _ _ (Oper.mk _ (Op.store 71 _ _) _ _ _ _ :: _) _ _); refine wpList_store_each _ rfl 71 _ _ rfl (w.heap.size + 1) #[.bool false, .slice A2 n2 c2, .int .i64 mhT, .int .i64 0] #[.bool false, .slice none 0 0, .int .i64 0, .int .i64 0] 71 rfl rfl ph6 exact_size rfl (by simp [Value.oneCell']) (noU4 _ _ _ _ _ _) ?_; intro u7 ph7 hb7 hz7 hk7 ho7; have pl7 := ho7 _ _ _ (by omega) pl6)
      have pl7' : pBlk _ _ _ _ := pl7
      have ph7' : pBlk _ _ _ _ := ph7
      have dl := pBlk_drew pl7
      have dh := pBlk_drew ph7
      obtain ⟨q0, q1, q2, q3⟩ := cells4 dl
      obtain ⟨r0, r1, r2, r3⟩ := cells4 dh
      obtain ⟨q0', q1', q2', q3'⟩ := cells4 pl7
      obtain ⟨r0', r1', r2', r3'⟩ := cells4 ph7
      have e0 := pl7'.free 0
      have e1 := pl7'.free 1
      have e2 := pl7'.free 2
      have e3 := pl7'.free 3
      have d0 := ph7'.free 0
      have d1 := ph7'.free 1
      have d2 := ph7'.free 2
      have d3 := ph7'.free 3
      have f0 := dl.free 0
      have f1 := dl.free 1
      have f2 := dl.free 2
      have f3 := dl.free 3
      have g0' := dh.free 0
      have g1' := dh.free 1
      have g2' := dh.free 2
      have g3' := dh.free 3
      obtain ⟨s0, s1, s2, s3⟩ := self4 pl7'
      obtain ⟨t0, t1, t2, t3⟩ := self4 ph7'
      (try dsimp only [Act.put])
      go_region
      all_goals
        go_wp2
        (try simp only [s0, s1, s2, s3, t0, t1, t2, t3])
        exact bodyPost_ret (v := .tuple #[.agg #[.bool false, .slice A1 n1 c1, .int .i64 mlT, .int .i64 0], .agg #[.bool false, .slice A2 n2 c2, .int .i64 mhT, .int .i64 0], .bool ev, .int .i64 0]) (by simp [results, Tryz.results67, go_sem, q0', q1', q2', q3', r0', r1', r2', r3']) rfl ⟨_, _, _, _, _, _, rfl, (hk7 _ _ _ hv16).below (Below.refl _ _).drew, (hk7 _ _ _ hv2).below (Below.refl _ _).drew, (B6.trans (hb7.mono (by omega))).trans (Below.refl _ _).drew⟩
    · rw [if_pos (by decide), if_pos (by decide)]
      go_enter Tryz.func67, Tryz.ntmps67
      go_wp2_with fail
      refine (hky.out _ (hW.below hL.below)).mono ?_
      rintro e u1 ⟨rfl, hb⟩
      have hL1 := hL.go hb
      have hL1s := hb.size
      clear hb
      go_wp2_with fail
      refine (hof.out _ (hW.below hL1.below)).mono ?_
      rintro e u2 ⟨rfl, hb⟩
      replace hL1s := Nat.le_trans hL1s hb.size
      have hL2 := ((hL1.go hb).go ((Below.refl _ _).alloc (Nat.le_refl _) (.cells #[.int .i64 (fK id), .int .i64 (fW id), .int .i64 (fM id), .int .i64 (fB id), .int .u64 (fT id), .int .u64 (fI id), .int .u64 (fN id)] 58))).put (pBlk_st _ _ _) (pBlk_made u2 #[.int .i64 (fK id), .int .i64 (fW id), .int .i64 (fM id), .int .i64 (fB id), .int .u64 (fT id), .int .u64 (fI id), .int .u64 (fN id)] 58)
      clear hb hL1
      go_wp2_with fail
      refine (hms.out _ (hW.below hL2.below)).mono ?_
      rintro e u3 ⟨rfl, hb⟩
      have hL3 := hL2.go hb
      have hgf : w.heap.size + 1 < u2.heap.size := by
        have := hL1s
        simp at this
        omega
      clear hb hL2
      have pl := hL3.get (P := pBlk w.heap.size #[.bool false, .slice none 0 0, .int .i64 0, .int .i64 0] 71) (by repeat (first | exact List.mem_cons_self | apply List.mem_cons_of_mem))
      have ph := hL3.get (P := pBlk (w.heap.size + 1) #[.bool false, .slice none 0 0, .int .i64 0, .int .i64 0] 71) (by repeat (first | exact List.mem_cons_self | apply List.mem_cons_of_mem))
      have pf := hL3.get (P := pBlk u2.heap.size #[.int .i64 (fK id), .int .i64 (fW id), .int .i64 (fM id), .int .i64 (fB id), .int .u64 (fT id), .int .u64 (fI id), .int .u64 (fN id)] 58) (by repeat (first | exact List.mem_cons_self | apply List.mem_cons_of_mem))
      have B := hL3.below
      clear hL3
      obtain ⟨gf, hgF⟩ : ∃ g, u2.heap.size = g := ⟨_, rfl⟩
      rw [hgF] at pf hgf ⊢
      clear hgF
      obtain ⟨c0, c1', c2', c3, c4, c5, c6⟩ := cellsF pf
      go_wp2_with fail
      refine (hbL.out _ (hkm.out _ (by omega) rfl) _ (hW.below B)).mono ?_
      rintro e u4 ⟨A1, n1, c1, rfl, hv1, hb⟩
      replace pl := pBlk_st _ _ _ _ _ pl hb
      replace ph := pBlk_st _ _ _ _ _ ph hb
      replace pf := pBlk_st _ _ _ _ _ pf hb
      replace B := B.trans (hb.mono B.size)
      clear hb c0 c1' c2' c3 c4 c5 c6
      go_wp2_with ((with_reducible show wpList _ _ _ (Oper.mk _ (Op.store 71 _ _) _ _ _ _ :: _) _ _); refine wpList_store_each _ rfl 71 _ _ rfl w.heap.size #[.bool false, .slice A1 n1 c1, .int .i64 mlT, .int .i64 0] #[.bool false, .slice none 0 0, .int .i64 0, .int .i64 0] 71 rfl rfl pl exact_size rfl (by simp [Value.oneCell']) (noU4 _ _ _ _ _ _) ?_; intro u5 pl5 hb5 hz5 hk5 ho5; have ph5 := ho5 _ _ _ (by omega) ph; have pf5 := ho5 _ _ _ (by omega) pf; obtain ⟨c0, c1', c2', c3, c4, c5, c6⟩ := cellsF pf5)
      refine (hbH.out _ (hW.below (B.trans hb5))).mono ?_
      rintro e u6 ⟨A2, n2, c2, rfl, hv2, hb⟩
      have pl6 := pBlk_st _ _ _ _ _ pl5 hb
      have ph6 := pBlk_st _ _ _ _ _ ph5 hb
      have hv16 := (hk5 _ _ _ hv1).below hb
      have B6 := (B.trans hb5).trans (hb.mono (B.trans hb5).size)
      clear hb c0 c1' c2' c3 c4 c5 c6
      go_wp2_with ((with_reducible show wpList _ _ _ (Oper.mk _ (Op.store 71 _ _) _ _ _ _ :: _) _ _); refine wpList_store_each _ rfl 71 _ _ rfl (w.heap.size + 1) #[.bool false, .slice A2 n2 c2, .int .i64 mhT, .int .i64 0] #[.bool false, .slice none 0 0, .int .i64 0, .int .i64 0] 71 rfl rfl ph6 exact_size rfl (by simp [Value.oneCell']) (noU4 _ _ _ _ _ _) ?_; intro u7 ph7 hb7 hz7 hk7 ho7; have pl7 := ho7 _ _ _ (by omega) pl6)
      have pl7' : pBlk _ _ _ _ := pl7
      have ph7' : pBlk _ _ _ _ := ph7
      have dl := pBlk_drew pl7
      have dh := pBlk_drew ph7
      obtain ⟨q0, q1, q2, q3⟩ := cells4 dl
      obtain ⟨r0, r1, r2, r3⟩ := cells4 dh
      obtain ⟨q0', q1', q2', q3'⟩ := cells4 pl7
      obtain ⟨r0', r1', r2', r3'⟩ := cells4 ph7
      have e0 := pl7'.free 0
      have e1 := pl7'.free 1
      have e2 := pl7'.free 2
      have e3 := pl7'.free 3
      have d0 := ph7'.free 0
      have d1 := ph7'.free 1
      have d2 := ph7'.free 2
      have d3 := ph7'.free 3
      have f0 := dl.free 0
      have f1 := dl.free 1
      have f2 := dl.free 2
      have f3 := dl.free 3
      have g0' := dh.free 0
      have g1' := dh.free 1
      have g2' := dh.free 2
      have g3' := dh.free 3
      obtain ⟨s0, s1, s2, s3⟩ := self4 pl7'
      obtain ⟨t0, t1, t2, t3⟩ := self4 ph7'
      (try dsimp only [Act.put])
      go_region
      all_goals
        go_wp2
        (try simp only [s0, s1, s2, s3, t0, t1, t2, t3])
        exact bodyPost_ret (v := .tuple #[.agg #[.bool false, .slice A1 n1 c1, .int .i64 mlT, .int .i64 0], .agg #[.bool false, .slice A2 n2 c2, .int .i64 mhT, .int .i64 0], .bool ev, .int .i64 0]) (by simp [results, Tryz.results67, go_sem, q0', q1', q2', q3', r0', r1', r2', r3']) rfl ⟨_, _, _, _, _, _, rfl, (hk7 _ _ _ hv16).below (Below.refl _ _).drew, (hk7 _ _ _ hv2).below (Below.refl _ _).drew, (B6.trans (hb7.mono (by omega))).trans (Below.refl _ _).drew⟩
    · rw [if_neg (by decide), if_neg (by decide)]
      go_enter Tryz.func67, Tryz.ntmps67
      go_wp2_with fail
      refine (hky.out _ (hW.below hL.below)).mono ?_
      rintro e u1 ⟨rfl, hb⟩
      have hL1 := hL.go hb
      have hL1s := hb.size
      clear hb
      go_wp2_with fail
      refine (hof.out _ (hW.below hL1.below)).mono ?_
      rintro e u2 ⟨rfl, hb⟩
      replace hL1s := Nat.le_trans hL1s hb.size
      have hL2 := ((hL1.go hb).go ((Below.refl _ _).alloc (Nat.le_refl _) (.cells #[.int .i64 (fK id), .int .i64 (fW id), .int .i64 (fM id), .int .i64 (fB id), .int .u64 (fT id), .int .u64 (fI id), .int .u64 (fN id)] 58))).put (pBlk_st _ _ _) (pBlk_made u2 #[.int .i64 (fK id), .int .i64 (fW id), .int .i64 (fM id), .int .i64 (fB id), .int .u64 (fT id), .int .u64 (fI id), .int .u64 (fN id)] 58)
      clear hb hL1
      go_wp2_with fail
      refine (hms.out _ (hW.below hL2.below)).mono ?_
      rintro e u3 ⟨rfl, hb⟩
      have hL3 := hL2.go hb
      have hgf : w.heap.size + 1 < u2.heap.size := by
        have := hL1s
        simp at this
        omega
      clear hb hL2
      have pl := hL3.get (P := pBlk w.heap.size #[.bool false, .slice none 0 0, .int .i64 0, .int .i64 0] 71) (by repeat (first | exact List.mem_cons_self | apply List.mem_cons_of_mem))
      have ph := hL3.get (P := pBlk (w.heap.size + 1) #[.bool false, .slice none 0 0, .int .i64 0, .int .i64 0] 71) (by repeat (first | exact List.mem_cons_self | apply List.mem_cons_of_mem))
      have pf := hL3.get (P := pBlk u2.heap.size #[.int .i64 (fK id), .int .i64 (fW id), .int .i64 (fM id), .int .i64 (fB id), .int .u64 (fT id), .int .u64 (fI id), .int .u64 (fN id)] 58) (by repeat (first | exact List.mem_cons_self | apply List.mem_cons_of_mem))
      have B := hL3.below
      clear hL3
      obtain ⟨gf, hgF⟩ : ∃ g, u2.heap.size = g := ⟨_, rfl⟩
      rw [hgF] at pf hgf ⊢
      clear hgF
      obtain ⟨c0, c1', c2', c3, c4, c5, c6⟩ := cellsF pf
      go_wp2_with fail
      refine (hbL.out _ (hkm.out _ (by omega) rfl) _ (hW.below B)).mono ?_
      rintro e u4 ⟨A1, n1, c1, rfl, hv1, hb⟩
      replace pl := pBlk_st _ _ _ _ _ pl hb
      replace ph := pBlk_st _ _ _ _ _ ph hb
      replace pf := pBlk_st _ _ _ _ _ pf hb
      replace B := B.trans (hb.mono B.size)
      clear hb c0 c1' c2' c3 c4 c5 c6
      go_wp2_with ((with_reducible show wpList _ _ _ (Oper.mk _ (Op.store 71 _ _) _ _ _ _ :: _) _ _); refine wpList_store_each _ rfl 71 _ _ rfl w.heap.size #[.bool false, .slice A1 n1 c1, .int .i64 mlT, .int .i64 0] #[.bool false, .slice none 0 0, .int .i64 0, .int .i64 0] 71 rfl rfl pl exact_size rfl (by simp [Value.oneCell']) (noU4 _ _ _ _ _ _) ?_; intro u5 pl5 hb5 hz5 hk5 ho5; have ph5 := ho5 _ _ _ (by omega) ph; have pf5 := ho5 _ _ _ (by omega) pf; obtain ⟨c0, c1', c2', c3, c4, c5, c6⟩ := cellsF pf5)
      have pl5' : pBlk _ _ _ _ := pl5
      have ph5' : pBlk _ _ _ _ := ph5
      have dl := pBlk_drew pl5
      have dh := pBlk_drew ph5
      obtain ⟨q0, q1, q2, q3⟩ := cells4 dl
      obtain ⟨r0, r1, r2, r3⟩ := cells4 dh
      obtain ⟨q0', q1', q2', q3'⟩ := cells4 pl5
      obtain ⟨r0', r1', r2', r3'⟩ := cells4 ph5
      have e0 := pl5'.free 0
      have e1 := pl5'.free 1
      have e2 := pl5'.free 2
      have e3 := pl5'.free 3
      have d0 := ph5'.free 0
      have d1 := ph5'.free 1
      have d2 := ph5'.free 2
      have d3 := ph5'.free 3
      have f0 := dl.free 0
      have f1 := dl.free 1
      have f2 := dl.free 2
      have f3 := dl.free 3
      have g0' := dh.free 0
      have g1' := dh.free 1
      have g2' := dh.free 2
      have g3' := dh.free 3
      obtain ⟨s0, s1, s2, s3⟩ := self4 pl5'
      obtain ⟨t0, t1, t2, t3⟩ := self4 ph5'
      (try dsimp only [Act.put])
      go_region
      all_goals
        go_wp2
        (try simp only [s0, s1, s2, s3, t0, t1, t2, t3])
        exact bodyPost_ret (v := .tuple #[.agg #[.bool false, .slice A1 n1 c1, .int .i64 mlT, .int .i64 0], .agg #[.bool false, .slice none 0 0, .int .i64 0, .int .i64 0], .bool ev, .int .i64 0]) (by simp [results, Tryz.results67, go_sem, q0', q1', q2', q3', r0', r1', r2', r3']) rfl ⟨_, _, _, _, _, _, rfl, (hk5 _ _ _ hv1).below (Below.refl _ _).drew, (hnil _).below (Below.refl _ _).drew, (B.trans hb5).trans (Below.refl _ _).drew⟩
    · exfalso
      unfold bne at g2
      rw [l1] at g2
      cases g2
  · rw [if_neg l3, if_neg l3]
    rcases hHc with ⟨g1, rfl⟩ | ⟨g1, g2, rfl, rfl⟩ | ⟨g1, g2, rfl, rfl⟩ | ⟨g1, g2, rfl⟩
    · rw [if_pos (by decide), if_pos (by decide)]
      go_enter Tryz.func67, Tryz.ntmps67
      go_wp2_with fail
      refine (hky.out _ (hW.below hL.below)).mono ?_
      rintro e u1 ⟨rfl, hb⟩
      have hL1 := hL.go hb
      have hL1s := hb.size
      clear hb
      go_wp2_with fail
      refine (hof.out _ (hW.below hL1.below)).mono ?_
      rintro e u2 ⟨rfl, hb⟩
      replace hL1s := Nat.le_trans hL1s hb.size
      have hL2 := ((hL1.go hb).go ((Below.refl _ _).alloc (Nat.le_refl _) (.cells #[.int .i64 (fK id), .int .i64 (fW id), .int .i64 (fM id), .int .i64 (fB id), .int .u64 (fT id), .int .u64 (fI id), .int .u64 (fN id)] 58))).put (pBlk_st _ _ _) (pBlk_made u2 #[.int .i64 (fK id), .int .i64 (fW id), .int .i64 (fM id), .int .i64 (fB id), .int .u64 (fT id), .int .u64 (fI id), .int .u64 (fN id)] 58)
      clear hb hL1
      go_wp2_with fail
      refine (hms.out _ (hW.below hL2.below)).mono ?_
      rintro e u3 ⟨rfl, hb⟩
      have hL3 := hL2.go hb
      have hgf : w.heap.size + 1 < u2.heap.size := by
        have := hL1s
        simp at this
        omega
      clear hb hL2
      have pl := hL3.get (P := pBlk w.heap.size #[.bool false, .slice none 0 0, .int .i64 0, .int .i64 0] 71) (by repeat (first | exact List.mem_cons_self | apply List.mem_cons_of_mem))
      have ph := hL3.get (P := pBlk (w.heap.size + 1) #[.bool false, .slice none 0 0, .int .i64 0, .int .i64 0] 71) (by repeat (first | exact List.mem_cons_self | apply List.mem_cons_of_mem))
      have pf := hL3.get (P := pBlk u2.heap.size #[.int .i64 (fK id), .int .i64 (fW id), .int .i64 (fM id), .int .i64 (fB id), .int .u64 (fT id), .int .u64 (fI id), .int .u64 (fN id)] 58) (by repeat (first | exact List.mem_cons_self | apply List.mem_cons_of_mem))
      have B := hL3.below
      clear hL3
      obtain ⟨gf, hgF⟩ : ∃ g, u2.heap.size = g := ⟨_, rfl⟩
      rw [hgF] at pf hgf ⊢
      clear hgF
      obtain ⟨c0, c1', c2', c3, c4, c5, c6⟩ := cellsF pf
      go_wp2_with fail
      refine (hbH.out _ (hW.below (B))).mono ?_
      rintro e u6 ⟨A2, n2, c2, rfl, hv2, hb⟩
      have pl6 := pBlk_st _ _ _ _ _ pl hb
      have ph6 := pBlk_st _ _ _ _ _ ph hb
      have hv16 := (hnil u3).below hb
      have B6 := (B).trans (hb.mono (B).size)
      clear hb c0 c1' c2' c3 c4 c5 c6
      go_wp2_with ((with_reducible show wpList _ _ _ (Oper.mk _ (Op.store 71 _ _) _ _ _ _ :: _) _ _); refine wpList_store_each _ rfl 71 _ _ rfl (w.heap.size + 1) #[.bool false, .slice A2 n2 c2, .int .i64 mhT, .int .i64 0] #[.bool false, .slice none 0 0, .int .i64 0, .int .i64 0] 71 rfl rfl ph6 exact_size rfl (by simp [Value.oneCell']) (noU4 _ _ _ _ _ _) ?_; intro u7 ph7 hb7 hz7 hk7 ho7; have pl7 := ho7 _ _ _ (by omega) pl6)
      have pl7' : pBlk _ _ _ _ := pl7
      have ph7' : pBlk _ _ _ _ := ph7
      have dl := pBlk_drew pl7
      have dh := pBlk_drew ph7
      obtain ⟨q0, q1, q2, q3⟩ := cells4 dl
      obtain ⟨r0, r1, r2, r3⟩ := cells4 dh
      obtain ⟨q0', q1', q2', q3'⟩ := cells4 pl7
      obtain ⟨r0', r1', r2', r3'⟩ := cells4 ph7
      have e0 := pl7'.free 0
      have e1 := pl7'.free 1
      have e2 := pl7'.free 2
      have e3 := pl7'.free 3
      have d0 := ph7'.free 0
      have d1 := ph7'.free 1
      have d2 := ph7'.free 2
      have d3 := ph7'.free 3
      have f0 := dl.free 0
      have f1 := dl.free 1
      have f2 := dl.free 2
      have f3 := dl.free 3
      have g0' := dh.free 0
      have g1' := dh.free 1
      have g2' := dh.free 2
      have g3' := dh.free 3
      obtain ⟨s0, s1, s2, s3⟩ := self4 pl7'
      obtain ⟨t0, t1, t2, t3⟩ := self4 ph7'
      (try dsimp only [Act.put])
      go_region
      all_goals
        go_wp2
        (try simp only [s0, s1, s2, s3, t0, t1, t2, t3])
        exact bodyPost_ret (v := .tuple #[.agg #[.bool false, .slice none 0 0, .int .i64 0, .int .i64 0], .agg #[.bool false, .slice A2 n2 c2, .int .i64 mhT, .int .i64 0], .bool ev, .int .i64 0]) (by simp [results, Tryz.results67, go_sem, q0', q1', q2', q3', r0', r1', r2', r3']) rfl ⟨_, _, _, _, _, _, rfl, (hnil _).below (Below.refl _ _).drew, (hk7 _ _ _ hv2).below (Below.refl _ _).drew, (B6.trans (hb7.mono (by omega))).trans (Below.refl _ _).drew⟩
    · rw [if_pos (by decide), if_pos (by decide)]
      go_enter Tryz.func67, Tryz.ntmps67
      go_wp2_with fail
      refine (hky.out _ (hW.below hL.below)).mono ?_
      rintro e u1 ⟨rfl, hb⟩
      have hL1 := hL.go hb
      have hL1s := hb.size
      clear hb
      go_wp2_with fail
      refine (hof.out _ (hW.below hL1.below)).mono ?_
      rintro e u2 ⟨rfl, hb⟩
      replace hL1s := Nat.le_trans hL1s hb.size
      have hL2 := ((hL1.go hb).go ((Below.refl _ _).alloc (Nat.le_refl _) (.cells #[.int .i64 (fK id), .int .i64 (fW id), .int .i64 (fM id), .int .i64 (fB id), .int .u64 (fT id), .int .u64 (fI id), .int .u64 (fN id)] 58))).put (pBlk_st _ _ _) (pBlk_made u2 #[.int .i64 (fK id), .int .i64 (fW id), .int .i64 (fM id), .int .i64 (fB id), .int .u64 (fT id), .int .u64 (fI id), .int .u64 (fN id)] 58)
      clear hb hL1
      go_wp2_with fail
      refine (hms.out _ (hW.below hL2.below)).mono ?_
      rintro e u3 ⟨rfl, hb⟩
      have hL3 := hL2.go hb
      have hgf : w.heap.size + 1 < u2.heap.size := by
        have := hL1s
        simp at this
        omega
      clear hb hL2
      have pl := hL3.get (P := pBlk w.heap.size #[.bool false, .slice none 0 0, .int .i64 0, .int .i64 0] 71) (by repeat (first | exact List.mem_cons_self | apply List.mem_cons_of_mem))
      have ph := hL3.get (P := pBlk (w.heap.size + 1) #[.bool false, .slice none 0 0, .int .i64 0, .int .i64 0] 71) (by repeat (first | exact List.mem_cons_self | apply List.mem_cons_of_mem))
      have pf := hL3.get (P := pBlk u2.heap.size #[.int .i64 (fK id), .int .i64 (fW id), .int .i64 (fM id), .int .i64 (fB id), .int .u64 (fT id), .int .u64 (fI id), .int .u64 (fN id)] 58) (by repeat (first | exact List.mem_cons_self | apply List.mem_cons_of_mem))
      have B := hL3.below
      clear hL3
      obtain ⟨gf, hgF⟩ : ∃ g, u2.heap.size = g := ⟨_, rfl⟩
      rw [hgF] at pf hgf ⊢
      clear hgF
      obtain ⟨c0, c1', c2', c3, c4, c5, c6⟩ := cellsF pf
      go_wp2_with fail
      refine (hbH.out _ (hW.below (B))).mono ?_
      rintro e u6 ⟨A2, n2, c2, rfl, hv2, hb⟩
      have pl6 := pBlk_st _ _ _ _ _ pl hb
      have ph6 := pBlk_st _ _ _ _ _ ph hb
      have hv16 := (hnil u3).below hb
      have B6 := (B).trans (hb.mono (B).size)
      clear hb c0 c1' c2' c3 c4 c5 c6
      go_wp2_with ((with_reducible show wpList _ _ _ (Oper.mk _ (Op.store 71 _ _) _ _ _ _ :: _) _ _); refine wpList_store_each _ rfl 71 _ _ rfl (w.heap.size + 1) #[.bool false, .slice A2 n2 c2, .int .i64 mhT, .int .i64 0] #[.bool false, .slice none 0 0, .int .i64 0, .int .i64 0] 71 rfl rfl ph6 exact_size rfl (by simp [Value.oneCell']) (noU4 _ _ _ _ _ _) ?_; intro u7 ph7 hb7 hz7 hk7 ho7; have pl7 := ho7 _ _ _ (by omega) pl6)
      have pl7' : pBlk _ _ _ _ := pl7
      have ph7' : pBlk _ _ _ _ := ph7
      have dl := pBlk_drew pl7
      have dh := pBlk_drew ph7
      obtain ⟨q0, q1, q2, q3⟩ := cells4 dl
      obtain ⟨r0, r1, r2, r3⟩ := cells4 dh
      obtain ⟨q0', q1', q2', q3'⟩ := cells4 pl7
      obtain ⟨r0', r1', r2', r3'⟩ := cells4 ph7
      have e0 := pl7'.free 0
      have e1 := pl7'.free 1
      have e2 := pl7'.free 2
      have e3 := pl7'.free 3
      have d0 := ph7'.free 0
      have d1 := ph7'.free 1
      have d2 := ph7'.free 2
      have d3 := ph7'.free 3
      have f0 := dl.free 0
      have f1 := dl.free 1
      have f2 := dl.free 2
      have f3 := dl.free 3
      have g0' := dh.free 0
      have g1' := dh.free 1
      have g2' := dh.free 2
      have g3' := dh.free 3
      obtain ⟨s0, s1, s2, s3⟩ := self4 pl7'
      obtain ⟨t0, t1, t2, t3⟩ := self4 ph7'
      (try dsimp only [Act.put])
      go_region
      all_goals
        go_wp2
        (try simp only [s0, s1, s2, s3, t0, t1, t2, t3])
        exact bodyPost_ret (v := .tuple #[.agg #[.bool false, .slice none 0 0, .int .i64 0, .int .i64 0], .agg #[.bool false, .slice A2 n2 c2, .int .i64 mhT, .int .i64 0], .bool ev, .int .i64 0]) (by simp [results, Tryz.results67, go_sem, q0', q1', q2', q3', r0', r1', r2', r3']) rfl ⟨_, _, _, _, _, _, rfl, (hnil _).below (Below.refl _ _).drew, (hk7 _ _ _ hv2).below (Below.refl _ _).drew, (B6.trans (hb7.mono (by omega))).trans (Below.refl _ _).drew⟩
    · rw [if_neg (by decide), if_neg (by decide)]
      go_enter Tryz.func67, Tryz.ntmps67
      go_wp2_with fail
      refine (hky.out _ (hW.below hL.below)).mono ?_
      rintro e u1 ⟨rfl, hb⟩
      have hL1 := hL.go hb
      have hL1s := hb.size
      clear hb
      go_wp2_with fail
      refine (hof.out _ (hW.below hL1.below)).mono ?_
      rintro e u2 ⟨rfl, hb⟩
      replace hL1s := Nat.le_trans hL1s hb.size
      have hL2 := ((hL1.go hb).go ((Below.refl _ _).alloc (Nat.le_refl _) (.cells #[.int .i64 (fK id), .int .i64 (fW id), .int .i64 (fM id), .int .i64 (fB id), .int .u64 (fT id), .int .u64 (fI id), .int .u64 (fN id)] 58))).put (pBlk_st _ _ _) (pBlk_made u2 #[.int .i64 (fK id), .int .i64 (fW id), .int .i64 (fM id), .int .i64 (fB id), .int .u64 (fT id), .int .u64 (fI id), .int .u64 (fN id)] 58)
      clear hb hL1
      go_wp2_with fail
      refine (hms.out _ (hW.below hL2.below)).mono ?_
      rintro e u3 ⟨rfl, hb⟩
      have hL3 := hL2.go hb
      have hgf : w.heap.size + 1 < u2.heap.size := by
        have := hL1s
        simp at this
        omega
      clear hb hL2
      have pl := hL3.get (P := pBlk w.heap.size #[.bool false, .slice none 0 0, .int .i64 0, .int .i64 0] 71) (by repeat (first | exact List.mem_cons_self | apply List.mem_cons_of_mem))
      have ph := hL3.get (P := pBlk (w.heap.size + 1) #[.bool false, .slice none 0 0, .int .i64 0, .int .i64 0] 71) (by repeat (first | exact List.mem_cons_self | apply List.mem_cons_of_mem))
      have pf := hL3.get (P := pBlk u2.heap.size #[.int .i64 (fK id), .int .i64 (fW id), .int .i64 (fM id), .int .i64 (fB id), .int .u64 (fT id), .int .u64 (fI id), .int .u64 (fN id)] 58) (by repeat (first | exact List.mem_cons_self | apply List.mem_cons_of_mem))
      have B := hL3.below
      clear hL3
      obtain ⟨gf, hgF⟩ : ∃ g, u2.heap.size = g := ⟨_, rfl⟩
      rw [hgF] at pf hgf ⊢
      clear hgF
      obtain ⟨c0, c1', c2', c3, c4, c5, c6⟩ := cellsF pf
      go_wp2_with fail
      have pl' : pBlk _ _ _ _ := pl
      have ph' : pBlk _ _ _ _ := ph
      have dl := pBlk_drew pl
      have dh := pBlk_drew ph
      obtain ⟨q0, q1, q2, q3⟩ := cells4 dl
      obtain ⟨r0, r1, r2, r3⟩ := cells4 dh
      obtain ⟨q0', q1', q2', q3'⟩ := cells4 pl
      obtain ⟨r0', r1', r2', r3'⟩ := cells4 ph
      have e0 := pl'.free 0
      have e1 := pl'.free 1
      have e2 := pl'.free 2
      have e3 := pl'.free 3
      have d0 := ph'.free 0
      have d1 := ph'.free 1
      have d2 := ph'.free 2
      have d3 := ph'.free 3
      have f0 := dl.free 0
      have f1 := dl.free 1
      have f2 := dl.free 2
      have f3 := dl.free 3
      have g0' := dh.free 0
      have g1' := dh.free 1
      have g2' := dh.free 2
      have g3' := dh.free 3
      obtain ⟨s0, s1, s2, s3⟩ := self4 pl'
      obtain ⟨t0, t1, t2, t3⟩ := self4 ph'
      (try dsimp only [Act.put])
      go_region
      all_goals
        go_wp2
        (try simp only [s0, s1, s2, s3, t0, t1, t2, t3])
        exact bodyPost_ret (v := .tuple #[.agg #[.bool false, .slice none 0 0, .int .i64 0, .int .i64 0], .agg #[.bool false, .slice none 0 0, .int .i64 0, .int .i64 0], .bool ev, .int .i64 0]) (by simp [results, Tryz.results67, go_sem, q0', q1', q2', q3', r0', r1', r2', r3']) rfl ⟨_, _, _, _, _, _, rfl, (hnil _).below (Below.refl _ _).drew, (hnil _).below (Below.refl _ _).drew, (B).trans (Below.refl _ _).drew⟩
    · exfalso
      unfold bne at g2
      rw [l1] at g2
      cases g2
end Go.Proofs.YtncfbleeidjflaaGreatDoor
