/- The document's answer for chapter 2: a number as a numerator and a denominator; the order; walked. Conditions: powers within some thousands. -/
/- The document's rounding: is a size to be rounded to a magnitude or a lesser one; walked. Conditions: none. -/
/- The document's values: patterns; walked. Conditions: none. -/
import Derived.Test.YtncfbleeidjflaaGreatDoorPz37
import Derived.Test.YtncfbleeidjflaaGreatDoorPz20
namespace Go.Proofs.YtncfbleeidjflaaGreatDoor
open Go.RowKit Go.Cal
/-- The box of a number, as it stands. -/
structure PaS (w : World) (b : Nat) (d : Value) (two five : Int) (k N : Nat) (W : World) : Prop where
  bel : Below w.heap.size w W
  lt : b < W.heap.size
  c1 : W.cell? ⟨b, 1, none⟩ = some d
  c2 : W.cell? ⟨b, 2, none⟩ = some (.int .i64 two)
  c3 : W.cell? ⟨b, 3, none⟩ = some (.int .i64 five)
  num : IsN W d k N
theorem PaS.keep {w : World} {b : Nat} {d : Value} {two five : Int} {k N : Nat} {W W' : World} (h : PaS w b d two five k N W) (hb : Below W.heap.size W W') : PaS w b d two five k N W' :=
  ⟨h.bel.trans (hb.mono h.bel.size), Nat.lt_of_lt_of_le h.lt hb.size, (hb.cell (p := ⟨b, 1, none⟩) h.lt).trans h.c1, (hb.cell (p := ⟨b, 2, none⟩) h.lt).trans h.c2, (hb.cell (p := ⟨b, 3, none⟩) h.lt).trans h.c3, h.num.below hb⟩
theorem PaS.made (w : World) (ng : Bool) (d : Value) (two five : Int) {k N : Nat} (h : IsN w d k N) : PaS w w.heap.size d two five k N (w.alloc (.cells #[.bool ng, d, .int .i64 two, .int .i64 five] 71)) := by
  have hp := pBlk_made w #[.bool ng, d, .int .i64 two, .int .i64 five] 71
  have hb := (Below.refl w.heap.size w).alloc (Nat.le_refl _) (.cells #[.bool ng, d, .int .i64 two, .int .i64 five] 71)
  exact ⟨hb, hp.lt, hp.cell 1 _ rfl, hp.cell 2 _ rfl, hp.cell 3 _ rfl, h.below hb⟩
set_option maxRecDepth 100000 in
set_option maxHeartbeats 4000000 in
theorem parts_any (ng : Bool) {d : Value} {k N : Nat} (two five : Int) (w : World) (h : IsN w d k N) (hk : k ≤ 10000) (h2 : -20000 ≤ two ∧ two ≤ 20000) (h5 : -10000 ≤ five ∧ five ≤ 10000) :
    Calls Tryz.prog 58 #[.agg #[.bool ng, d, .int .i64 two, .int .i64 five]] w fun e w' => ∃ p q kp kq, e = .returned (.tuple #[p, q]) ∧ pH p kp (exP N two five) w' ∧ pH q kq (exQ two five) w' ∧ kp ≤ 60000 ∧ kq ≤ 60000 ∧ Below w.heap.size w w' := by
  obtain ⟨F, hF⟩ : ∃ F : Nat, five.toNat = F := ⟨_, rfl⟩
  obtain ⟨G, hG⟩ : ∃ G : Nat, (-five).toNat = G := ⟨_, rfl⟩
  obtain ⟨T, hT⟩ : ∃ T : Nat, max two 0 = (T : Int) := ⟨(max two 0).toNat, by omega⟩
  obtain ⟨U, hU⟩ : ∃ U : Nat, max (-two) 0 = (U : Int) := ⟨(max (-two) 0).toNat, by omega⟩
  have hfv := Lib.hid fun w => fives_int five F hF (by omega) w
  have hfw := Lib.hid fun w => fives_int (-five) G hG (by omega) w
  have hS0 := PaS.made w ng d two five h
  have hTb : T ≤ 20000 := by omega
  have hUb : U ≤ 20000 := by omega
  have hFb : F ≤ 10000 := by omega
  have hGb : G ≤ 10000 := by omega
  have hP : exP N two five = N * 5 ^ F * 2 ^ T := by unfold exP; rw [hF, show two.toNat = T by omega]
  have hQ : exQ two five = 5 ^ G * 2 ^ U := by unfold exQ; rw [hG, show (-two).toNat = U by omega]
  have hfit1 : N * 5 ^ F * 2 ^ T < 4294967296 ^ (2 * k + (F + 1) + T) := exP_fits h.lt F T
  have hfit2 : 5 ^ G * 2 ^ U < 4294967296 ^ ((G + 1) + U) := exQ_fits G U
  have hn5 : IntKind.i64.wrap (-five) = -five := by rw [IntKind.wrap_i64]; omega
  have hn2 : IntKind.i64.wrap (-two) = -two := by rw [IntKind.wrap_i64]; omega
  clear h hF hG
  replace hP := Lib.hid hP
  replace hQ := Lib.hid hQ
  replace hfit1 := Lib.hid hfit1
  replace hfit2 := Lib.hid hfit2
  go_enter Tryz.func58, Tryz.ntmps58
  go_wp2_with fail
  refine wp_region_held_drew (S := PaS w w.heap.size d two five k N) (by kernel_rfl) (hS0.keep (Below.refl _ _).drew) (fun hS => ?_)
  (refine wpAnyH_take (i := 0) (v := ?_) rfl (by kernel_rfl) (by kernel_rfl) (by kernel_rfl) (fun _ _ _ h => h) (Or.inl ⟨by rfl, ?_⟩) hS ?_; rotate_left; (focus ((intro W9 hSW; have hx1 := hSW.c1; have hx2 := hSW.c2; have hx3 := hSW.c3; have hl1 := hSW.lt; go_simp) <;> with_reducible rfl)))
  (refine wpAnyH_take (i := 1) (v := ?_) rfl (by kernel_rfl) (by kernel_rfl) (by kernel_rfl) (fun _ _ _ h => h) (Or.inl ⟨by rfl, ?_⟩) hS ?_; rotate_left; (focus ((intro W9 hSW; have hx1 := hSW.c1; have hx2 := hSW.c2; have hx3 := hSW.c3; have hl1 := hSW.lt; go_simp) <;> with_reducible rfl)))
  (refine wpAnyH_take (i := 3) (v := ?_) rfl (by kernel_rfl) (by kernel_rfl) (by kernel_rfl) (fun _ _ _ h => h) (Or.inl ⟨by rfl, ?_⟩) hS ?_; rotate_left; (focus ((intro W9 hSW; have hx1 := hSW.c1; have hx2 := hSW.c2; have hx3 := hSW.c3; have hl1 := hSW.lt; go_simp) <;> with_reducible rfl)))
  (refine wpAnyH_take (i := 4) (v := ?_) rfl (by kernel_rfl) (by kernel_rfl) (by kernel_rfl) (fun _ _ _ h => h) (Or.inl ⟨by rfl, ?_⟩) hS ?_; rotate_left; (focus ((intro W9 hSW; have hx1 := hSW.c1; have hx2 := hSW.c2; have hx3 := hSW.c3; have hl1 := hSW.lt; go_simp) <;> with_reducible rfl)))
  (refine wpAnyH_take (i := 7) (v := ?_) rfl (by kernel_rfl) (by kernel_rfl) (by kernel_rfl) (fun _ _ _ h => h) (Or.inl ⟨by rfl, ?_⟩) hS ?_; rotate_left; (focus ((intro W9 hSW; have hx1 := hSW.c1; have hx2 := hSW.c2; have hx3 := hSW.c3; have hl1 := hSW.lt; go_simp) <;> with_reducible rfl)))
  (refine wpAnyH_take (i := 8) (v := ?_) rfl (by kernel_rfl) (by kernel_rfl) (by kernel_rfl) (fun _ _ _ h => h) (Or.inl ⟨by rfl, ?_⟩) hS ?_; rotate_left; (focus ((intro W9 hSW; have hx1 := hSW.c1; have hx2 := hSW.c2; have hx3 := hSW.c3; have hl1 := hSW.lt; go_simp) <;> with_reducible rfl)))
  (refine wpAnyH_take (i := 9) (v := ?_) rfl (by kernel_rfl) (by kernel_rfl) (by kernel_rfl) (fun _ _ _ h => h) (Or.inl ⟨by rfl, ?_⟩) hS ?_; rotate_left; (focus ((intro W9 hSW; have hx1 := hSW.c1; have hx2 := hSW.c2; have hx3 := hSW.c3; have hl1 := hSW.lt; go_simp) <;> with_reducible rfl)))
  (refine wpAnyH_ready (rs := [2]) (by kernel_rfl) (by simp) ?_; refine AllReadyH.cons rfl (fun K hK => ?_) AllReadyH.nil)
  go_simp
  go_at_call 51
  refine Calls.mono (halves_any _ hS.num (by omega)) ?_
  rintro e w1 ⟨v1, rfl, hv1, hb1, -⟩
  refine hK.out _ _ (hS.keep hb1) (fun hS => ?_)
  (refine wpAnyH_ready (rs := [5]) (by kernel_rfl) (by simp) ?_; refine AllReadyH.cons rfl (fun K hK => ?_) AllReadyH.nil)
  go_simp
  go_at_call 130
  refine Calls.mono (hfv.out _) ?_
  rintro e w2 ⟨v2, rfl, hv2, hb2, -⟩
  refine hK.out _ _ (hS.keep hb2) (fun hS => ?_)
  (refine wpAnyH_ready (rs := [6]) (by kernel_rfl) (by simp) ?_; refine AllReadyH.cons rfl (fun K hK => ?_) AllReadyH.nil)
  go_simp
  go_at_call 126
  refine Calls.mono (times_any _ (IsH.below hv1 hb2) hv2 (by omega) (by omega)) ?_
  rintro e w3 ⟨v3, rfl, hv3, hb3, -⟩
  refine hK.out _ _ (hS.keep hb3) (fun hS => ?_)
  (refine wpAnyH_ready (rs := [10]) (by kernel_rfl) (by simp) ?_; refine AllReadyH.cons rfl (fun K hK => ?_) AllReadyH.nil)
  go_simp
  go_at_call 129
  refine Calls.mono (up_any T (2 * k + (F + 1) + T) _ hv3 (by omega) (by omega) hfit1.out) ?_
  rintro e w4 ⟨v4, rfl, hv4, hb4, -⟩
  refine hK.out _ _ (hS.keep hb4) (fun hS => ?_)
  (refine wpAnyH_take (i := 11) (v := ?_) rfl (by kernel_rfl) (by kernel_rfl) (by kernel_rfl) (fun _ _ _ h => h) (Or.inl ⟨by rfl, ?_⟩) hS ?_; rotate_left; (focus ((intro W9 hSW; have hx1 := hSW.c1; have hx2 := hSW.c2; have hx3 := hSW.c3; have hl1 := hSW.lt; go_simp) <;> with_reducible rfl)))
  refine wpAnyH_done (by kernel_rfl) ?_ _
  clear hb1 hb2 hb3 hb4 hv1 hv2 hv3 hfv hS0
  go_wp2_with fail
  refine wp_region_held_drew (S := PaS w w.heap.size d two five k N) (by kernel_rfl) (hS.keep (Below.refl _ _).drew) (fun hS => ?_)
  (refine wpAnyH_take (i := 0) (v := ?_) rfl (by kernel_rfl) (by kernel_rfl) (by kernel_rfl) (fun _ _ _ h => h) (Or.inl ⟨by rfl, ?_⟩) hS ?_; rotate_left; (focus ((intro W9 hSW; have hx1 := hSW.c1; have hx2 := hSW.c2; have hx3 := hSW.c3; have hl1 := hSW.lt; go_simp) <;> with_reducible rfl)))
  (refine wpAnyH_take (i := 1) (v := ?_) rfl (by kernel_rfl) (by kernel_rfl) (by kernel_rfl) (fun _ _ _ h => h) (Or.inl ⟨by rfl, ?_⟩) hS ?_; rotate_left; (focus ((intro W9 hSW; have hx1 := hSW.c1; have hx2 := hSW.c2; have hx3 := hSW.c3; have hl1 := hSW.lt; go_simp) <;> with_reducible rfl)))
  (refine wpAnyH_take (i := 2) (v := ?_) rfl (by kernel_rfl) (by kernel_rfl) (by kernel_rfl) (fun _ _ _ h => h) (Or.inl ⟨by rfl, ?_⟩) hS ?_; rotate_left; (focus ((intro W9 hSW; have hx1 := hSW.c1; have hx2 := hSW.c2; have hx3 := hSW.c3; have hl1 := hSW.lt; go_simp) <;> with_reducible rfl)))
  (refine wpAnyH_take (i := 3) (v := ?_) rfl (by kernel_rfl) (by kernel_rfl) (by kernel_rfl) (fun _ _ _ h => h) (Or.inl ⟨by rfl, ?_⟩) hS ?_; rotate_left; (focus ((intro W9 hSW; have hx1 := hSW.c1; have hx2 := hSW.c2; have hx3 := hSW.c3; have hl1 := hSW.lt; go_simp) <;> with_reducible rfl)))
  (refine wpAnyH_take (i := 5) (v := ?_) rfl (by kernel_rfl) (by kernel_rfl) (by kernel_rfl) (fun _ _ _ h => h) (Or.inl ⟨by rfl, ?_⟩) hS ?_; rotate_left; (focus ((intro W9 hSW; have hx1 := hSW.c1; have hx2 := hSW.c2; have hx3 := hSW.c3; have hl1 := hSW.lt; go_simp) <;> with_reducible rfl)))
  (refine wpAnyH_take (i := 6) (v := ?_) rfl (by kernel_rfl) (by kernel_rfl) (by kernel_rfl) (fun _ _ _ h => h) (Or.inl ⟨by rfl, ?_⟩) hS ?_; rotate_left; (focus ((intro W9 hSW; have hx1 := hSW.c1; have hx2 := hSW.c2; have hx3 := hSW.c3; have hl1 := hSW.lt; go_simp) <;> with_reducible rfl)))
  (refine wpAnyH_take (i := 7) (v := ?_) rfl (by kernel_rfl) (by kernel_rfl) (by kernel_rfl) (fun _ _ _ h => h) (Or.inl ⟨by rfl, ?_⟩) hS ?_; rotate_left; (focus ((intro W9 hSW; have hx1 := hSW.c1; have hx2 := hSW.c2; have hx3 := hSW.c3; have hl1 := hSW.lt; go_simp) <;> with_reducible rfl)))
  (refine wpAnyH_take (i := 8) (v := ?_) rfl (by kernel_rfl) (by kernel_rfl) (by kernel_rfl) (fun _ _ _ h => h) (Or.inl ⟨by rfl, ?_⟩) hS ?_; rotate_left; (focus ((intro W9 hSW; have hx1 := hSW.c1; have hx2 := hSW.c2; have hx3 := hSW.c3; have hl1 := hSW.lt; go_simp) <;> with_reducible rfl)))
  (refine wpAnyH_ready (rs := [4]) (by kernel_rfl) (by simp) ?_; refine AllReadyH.cons rfl (fun K hK => ?_) AllReadyH.nil)
  go_simp
  go_at_call 130
  refine Calls.mono (hfw.out _) ?_
  rintro e w5 ⟨v5, rfl, hv5, hb5, -⟩
  refine hK.out _ _ (hS.keep hb5) (fun hS => ?_)
  (refine wpAnyH_ready (rs := [9]) (by kernel_rfl) (by simp) ?_; refine AllReadyH.cons rfl (fun K hK => ?_) AllReadyH.nil)
  go_simp
  go_at_call 129
  refine Calls.mono (up_any U ((G + 1) + U) _ hv5 (by omega) (by omega) hfit2.out) ?_
  rintro e w6 ⟨v6, rfl, hv6, hb6, -⟩
  refine hK.out _ _ (hS.keep hb6) (fun hS => ?_)
  (refine wpAnyH_take (i := 10) (v := ?_) rfl (by kernel_rfl) (by kernel_rfl) (by kernel_rfl) (fun _ _ _ h => h) (Or.inl ⟨by rfl, ?_⟩) hS ?_; rotate_left; (focus ((intro W9 hSW; have hx1 := hSW.c1; have hx2 := hSW.c2; have hx3 := hSW.c3; have hl1 := hSW.lt; go_simp) <;> with_reducible rfl)))
  (refine wpAnyH_take (i := 11) (v := ?_) rfl (by kernel_rfl) (by kernel_rfl) (by kernel_rfl) (fun _ _ _ h => h) (Or.inl ⟨by rfl, ?_⟩) hS ?_; rotate_left; (focus ((intro W9 hSW; have hx1 := hSW.c1; have hx2 := hSW.c2; have hx3 := hSW.c3; have hl1 := hSW.lt; go_simp) <;> with_reducible rfl)))
  refine wpAnyH_done (by kernel_rfl) ?_ _
  have hfin := hS.bel
  go_wp2
  go_ret2
  rw [hP.out, hQ.out]
  exact ⟨v4, v6, _, _, rfl, IsH.below hv4 ((Below.refl _ _).drew.trans (hb5.trans (hb6.mono hb5.size))), hv6, by omega, by omega, hfin⟩
set_option maxRecDepth 100000 in
set_option maxHeartbeats 4000000 in
theorem rcmp2_any (ng1 ng2 : Bool) {d1 d2 : Value} {k1 k2 N1 N2 : Nat} (t1 f1 t2 f2 : Int) (w : World) (h1 : IsN w d1 k1 N1) (h2 : IsN w d2 k2 N2) (b1 : k1 ≤ 10000) (b2 : k2 ≤ 10000)
    (ht1 : -20000 ≤ t1 ∧ t1 ≤ 20000) (hf1 : -10000 ≤ f1 ∧ f1 ≤ 10000) (ht2 : -20000 ≤ t2 ∧ t2 ≤ 20000) (hf2 : -10000 ≤ f2 ∧ f2 ≤ 10000) :
    Calls Tryz.prog 54 #[.agg #[.bool ng1, d1, .int .i64 t1, .int .i64 f1], .agg #[.bool ng2, d2, .int .i64 t2, .int .i64 f2]] w fun e w' => e = .returned (.int .i64 (exC N1 t1 f1 N2 t2 f2)) ∧ Below w.heap.size w w' := by
  have hp1 := Lib.hid fun (W : World) (hb : Below w.heap.size w W) => parts_any ng1 t1 f1 W (h1.below hb) b1 ht1 hf1
  have hp2 := Lib.hid fun (W : World) (hb : Below w.heap.size w W) => parts_any ng2 t2 f2 W (h2.below hb) b2 ht2 hf2
  have hba := (Below.refl w.heap.size w).alloc (Nat.le_refl _) (.cells #[.bool ng1, d1, .int .i64 t1, .int .i64 f1] 71)
  have hbb := hba.alloc (by simp) (.cells #[.bool ng2, d2, .int .i64 t2, .int .i64 f2] 71)
  have pB := pBlk_made (w.alloc (.cells #[.bool ng1, d1, .int .i64 t1, .int .i64 f1] 71)) #[.bool ng2, d2, .int .i64 t2, .int .i64 f2] 71
  rw [show (w.alloc (.cells #[.bool ng1, d1, .int .i64 t1, .int .i64 f1] 71)).heap.size = w.heap.size + 1 by simp] at pB
  clear hba h1 h2
  go_enter Tryz.func54, Tryz.ntmps54
  go_wp2_with fail
  refine (hp1.out _ hbb).mono ?_
  rintro e w1 ⟨p1, q1, kp1, kq1, rfl, hP1, hQ1, bp1, bq1, hb1⟩
  have hB1 := hbb.trans (hb1.mono hbb.size)
  have pB1 := pBlk_st _ _ _ _ _ pB hb1
  have z0 := pB1.cell 0 _ rfl
  have z1 := pB1.cell 1 _ rfl
  have z2 := pB1.cell 2 _ rfl
  have z3 := pB1.cell 3 _ rfl
  have zl := pB1.lt
  clear hp1 pB pB1
  go_wp2_with fail
  refine (hp2.out _ hB1).mono ?_
  rintro e w2 ⟨p2, q2, kp2, kq2, rfl, hP2, hQ2, bp2, bq2, hb2⟩
  have hB2 := hB1.trans (hb2.mono hB1.size)
  clear hp2 z0 z1 z2 z3 zl
  go_wp2_with fail
  refine (times_any _ (IsH.below hP1 hb2) hQ2 (by omega) (by omega)).mono ?_
  rintro e w3 ⟨v3, rfl, hv3, hb3, -⟩
  have hB3 := hB2.trans (hb3.mono hB2.size)
  go_wp2_with fail
  refine (times_any _ (IsH.below hP2 hb3) (IsH.below (IsH.below hQ1 hb2) hb3) (by omega) (by omega)).mono ?_
  rintro e w4 ⟨v4, rfl, hv4, hb4, -⟩
  have hB4 := hB3.trans (hb4.mono hB3.size)
  go_wp2_with fail
  refine (rcmp_any _ (IsH.below hv3 hb4) hv4 (by omega) (by omega)).mono ?_
  rintro e w5 ⟨rfl, rfl⟩
  go_wp2
  go_ret
  exact ⟨rfl, hB4⟩
end Go.Proofs.YtncfbleeidjflaaGreatDoor
namespace Go.Proofs.YtncfbleeidjflaaGreatDoor
open Go.RowKit Go.Cal
theorem exactr_size : (Tryz.prog.info? 71).map (·.size) = some 4 := by kernel_rfl
theorem cells4E {w : World} {g : Nat} {a b c d : Value} {t : TypeId} (hp : pBlk g #[a, b, c, d] t w) : w.cell? ⟨g, 0, none⟩ = some a ∧ w.cell? ⟨g, 1, none⟩ = some b ∧ w.cell? ⟨g, 2, none⟩ = some c ∧ w.cell? ⟨g, 3, none⟩ = some d :=
  ⟨hp.cell 0 _ rfl, hp.cell 1 _ rfl, hp.cell 2 _ rfl, hp.cell 3 _ rfl⟩
theorem setRow_oth {w : World} {g k : Nat} {cs : Array Value} (h : k ≠ g) : (w.setRow g cs).heap[k]? = w.heap[k]? := by
  simp [World.setRow, Array.getElem?_modify, Ne.symm h]
theorem wpList_store_rowE {P : Program} (w : World) {ops : Array Oper} {rest : List Oper} {o : Oper} {a : Act} {Q : Exit → Act → World → Prop}
    (hg : o.guard = none) (t : TypeId) (p x : Operand) (hop : o.op = Op.store t p x) (g : Nat) (cs old : Array Value) (t' : TypeId)
    (hp : a.eval p = .pointer (some ⟨g, 0, none⟩)) (hx : a.eval x = .agg cs) (hb : w.heap[g]? = some (.cells old t' (0, 0)))
    (hi : (P.info? t).map (·.size) = some cs.size) (ho : old.size = cs.size) (h1 : cs.all (·.oneCell') = true)
    (hK : wpList P ops Q rest (a.put o.dst undef) (w.setRow g cs)) : wpList P ops Q (o :: rest) a w :=
  wpList_plain hg fun _ hK' => wp_store_row t p x hop g cs hp hx t' old hb hi ho h1 (hK' _ _ hK)
theorem isN_row {w : World} {g b n c k N : Nat} {cs : Array Value} (h : IsN w (.slice (some ⟨b, 0, none⟩) n c) k N) (hne : b ≠ g) : IsN (w.setRow g cs) (.slice (some ⟨b, 0, none⟩) n c) k N := by
  obtain ⟨A, c', zs, e, r, h3⟩ := h
  injection e with e1 e2 e3
  subst e1; subst e2; subst e3
  refine ⟨_, _, zs, rfl, ⟨?_, fun b' off e i hi => ?_⟩, h3⟩
  · rcases r.place with h1 | ⟨b1, o1, f1, h1⟩
    · exact .inl h1
    · exact .inr ⟨b1, o1, f1, by simpa [World.setRow] using h1⟩
  · have hc := r.cells b' off e i hi
    injection e with e
    injection e with e4 e5
    subst e4
    rw [World.cell?_of_block (setRow_oth hne)]
    exact hc
set_option maxRecDepth 100000 in
set_option maxHeartbeats 2000000 in
theorem rsize8_any (m : Nat) (e : Int) (h0 : 0 < m) (hm : m < 18446744073709551616) (w : World) : Calls Tryz.prog 80 #[.int .u64 (m : Nat), .int .i64 e] w fun x w' => ∃ A, x = .returned (.agg #[.bool false, .slice A 1 1, .int .i64 e, .int .i64 0]) ∧ IsN w' (.slice A 1 1) 1 m ∧ Below w.heap.size w w' := by
  have hr0 := pBlk_made w #[.bool false, .slice none 0 0, .int .i64 0, .int .i64 0] 71
  have hb0 := (Below.refl w.heap.size w).alloc (Nat.le_refl _) (.cells #[.bool false, .slice none 0 0, .int .i64 0, .int .i64 0] 71)
  have hal := (Below.refl (w.alloc (.cells #[.bool false, .slice none 0 0, .int .i64 0, .int .i64 0] 71)).heap.size (w.alloc (.cells #[.bool false, .slice none 0 0, .int .i64 0, .int .i64 0] 71))).alloc (Nat.le_refl _) (.cells #[.int .u64 (m : Nat)] 22)
  have hr2 := pBlk_st _ _ _ _ _ hr0 hal
  have hB2 := hb0.trans (hal.mono hb0.size)
  have hN := isN_lit (w.alloc (.cells #[.bool false, .slice none 0 0, .int .i64 0, .int .i64 0] 71)) [m] #[.int .u64 (m : Nat)] 1 m rfl (fun x hx => by simp at hx; omega) rfl (by simp [vl])
  rw [show (w.alloc (.cells #[.bool false, .slice none 0 0, .int .i64 0, .int .i64 0] 71)).heap.size = w.heap.size + 1 by simp] at hN
  have hm1 : ¬ (m : Int) = 0 := by omega
  have hm2 : ¬ m = 0 := by omega
  clear hal hb0 hr0
  go_enter Tryz.func80, Tryz.ntmps80
  go_wp2_with (first | ((with_reducible show wpList _ _ _ (Oper.mk _ (Op.store 71 _ _) _ _ _ _ :: _) _ _); refine wpList_store_rowE _ rfl 71 _ _ rfl w.heap.size #[.bool false, .slice (some ⟨w.heap.size + 1, 0, none⟩) 1 1, .int .i64 e, .int .i64 0] #[.bool false, .slice none 0 0, .int .i64 0, .int .i64 0] 71 rfl rfl hr2 exactr_size rfl (by simp [Value.oneCell']) ?_; obtain ⟨w3, hw3⟩ : ∃ w3, World.setRow ((w.alloc (.cells #[.bool false, .slice none 0 0, .int .i64 0, .int .i64 0] 71)).alloc (.cells #[.int .u64 (m : Nat)] 22)) w.heap.size #[.bool false, .slice (some ⟨w.heap.size + 1, 0, none⟩) 1 1, .int .i64 e, .int .i64 0] = w3 := ⟨_, rfl⟩; rw [hw3]))
  have hp3 : pBlk w.heap.size #[.bool false, .slice (some ⟨w.heap.size + 1, 0, none⟩) 1 1, .int .i64 e, .int .i64 0] 71 w3 := by
    rw [← hw3]
    exact setRow_heap _ _ _ _ _ _ hr2
  have hN3 : IsN w3 (.slice (some ⟨w.heap.size + 1, 0, none⟩) 1 1) 1 m := by
    rw [← hw3]
    exact isN_row hN (by omega)
  have hB3 : Below w.heap.size w w3 := by
    rw [← hw3]
    exact below_setRow hB2 (Nat.le_refl _) _
  obtain ⟨r0, r1, r2, r3⟩ := cells4E hp3
  exact bodyPost_ret (v := .agg #[.bool false, .slice (some ⟨w.heap.size + 1, 0, none⟩) 1 1, .int .i64 e, .int .i64 0]) (by simp [results, Tryz.results80, go_sem, r0, r1, r2, r3]) rfl ⟨_, rfl, hN3, hB3⟩
/-- The box of a number, whole. -/
structure ExS (w : World) (b : Nat) (neg : Bool) (d : Value) (t f : Int) (k N : Nat) (W : World) : Prop where
  bel : Below w.heap.size w W
  lt : b < W.heap.size
  c0 : W.cell? ⟨b, 0, none⟩ = some (.bool neg)
  c1 : W.cell? ⟨b, 1, none⟩ = some d
  c2 : W.cell? ⟨b, 2, none⟩ = some (.int .i64 t)
  c3 : W.cell? ⟨b, 3, none⟩ = some (.int .i64 f)
  num : IsN W d k N
theorem ExS.keep {w : World} {b : Nat} {neg : Bool} {d : Value} {t f : Int} {k N : Nat} {W W' : World} (h : ExS w b neg d t f k N W) (hb : Below W.heap.size W W') : ExS w b neg d t f k N W' :=
  ⟨h.bel.trans (hb.mono h.bel.size), Nat.lt_of_lt_of_le h.lt hb.size, (hb.cell (p := ⟨b, 0, none⟩) h.lt).trans h.c0, (hb.cell (p := ⟨b, 1, none⟩) h.lt).trans h.c1, (hb.cell (p := ⟨b, 2, none⟩) h.lt).trans h.c2, (hb.cell (p := ⟨b, 3, none⟩) h.lt).trans h.c3, h.num.below hb⟩
theorem ExS.made (w : World) (neg : Bool) (d : Value) (t f : Int) {k N : Nat} (h : IsN w d k N) : ExS w w.heap.size neg d t f k N (w.alloc (.cells #[.bool neg, d, .int .i64 t, .int .i64 f] 71)) := by
  have hp := pBlk_made w #[.bool neg, d, .int .i64 t, .int .i64 f] 71
  have hb := (Below.refl w.heap.size w).alloc (Nat.le_refl _) (.cells #[.bool neg, d, .int .i64 t, .int .i64 f] 71)
  obtain ⟨r0, r1, r2, r3⟩ := cells4E hp
  exact ⟨hb, hp.lt, r0, r1, r2, r3, h.below hb⟩
set_option maxRecDepth 100000 in
set_option maxHeartbeats 4000000 in
theorem rahead8_any (id : Int) (h1 : 1 ≤ id) (h2 : id < 15) (neg : Bool) {d : Value} {k N : Nat} (t f : Int) (key : Nat) (hk : (key : Int) ≤ fitM id) (w : World) (hd : IsN w d k N) (hkk : k ≤ 10000) (ht : -5000 ≤ t ∧ t ≤ 5000) (hf : -5000 ≤ f ∧ f ≤ 5000) :
    Calls Tryz.prog 169 #[.int .i64 id, (.agg #[.bool neg, d, .int .i64 t, .int .i64 f]), .int .u64 (key : Nat)] w fun e w' => e = .returned (.bool (wiF id (exP N t f) (exQ t f) key)) ∧ Below w.heap.size w w' := by
  obtain ⟨a1, a2, a3, a4, a5, a6⟩ := mag_range h1 h2 hk
  have hbw := Lib.hid fun w => rbetw7_any id h1 h2 key hk w
  obtain ⟨⟨m, e⟩, hP⟩ : ∃ p, magV id 1 (2 * key + 1) = p := ⟨_, rfl⟩
  rw [hP] at a1 a2 a3 a4 a5 a6 hbw
  simp only at a1 a2 a3 a4 a5 a6 hbw
  have hwi := wi_cases N t f a5 a6
  have hsz := Lib.hid fun w => rsize8_any m e a1 a2 w
  have hkb : key < 18446744073709551616 := by have := (mag_half h1 h2 hk).word; omega
  have hS0 := ExS.made w neg d t f hd
  have hcm := Lib.hid fun (W : World) (A : Option Addr) (hd : IsN W d k N) (hs : IsN W (.slice A 1 1) 1 m) => rcmp2_any neg false t f e 0 W hd hs hkk (by decide) (by omega) (by omega) (by omega) (by omega)
  obtain ⟨r, hr⟩ : ∃ r, exC N t f m e 0 = r := ⟨_, rfl⟩
  obtain ⟨b, hb⟩ : ∃ b, wiF id (exP N t f) (exQ t f) key = b := ⟨_, rfl⟩
  rw [hr] at hcm hwi
  rw [hb] at hwi ⊢
  have hcase : (r = -1 ∧ b = true) ∨ (r = 0 ∧ b = (key % 2 == 0)) ∨ (r = 1 ∧ b = false) := hwi
  clear hwi hP a5 a6 hr hb hd hk
  go_enter Tryz.func169, Tryz.ntmps169
  go_wp2_with fail
  refine (hbw.out _).mono ?_
  rintro e' w1 ⟨rfl, hb1⟩
  have hS1 := hS0.keep hb1
  clear hS0 hb1 hbw
  go_wp2_with fail
  refine wp_region_held_drew (S := ExS w w.heap.size neg d t f k N) (by kernel_rfl) (hS1.keep (Below.refl _ _).drew) (fun hS => ?_)
  (refine wpAnyH_take (i := 0) (v := ?_) rfl (by kernel_rfl) (by kernel_rfl) (by kernel_rfl) (fun _ _ _ h => h) (Or.inl ⟨by rfl, ?_⟩) hS ?_; rotate_left; (focus ((intro W9 hSW; have hx0 := hSW.c0; have hx1 := hSW.c1; have hx2 := hSW.c2; have hx3 := hSW.c3; have hl1 := hSW.lt; go_simp) <;> with_reducible rfl)))
  (refine wpAnyH_take (i := 1) (v := ?_) rfl (by kernel_rfl) (by kernel_rfl) (by kernel_rfl) (fun _ _ _ h => h) (Or.inl ⟨by rfl, ?_⟩) hS ?_; rotate_left; (focus ((intro W9 hSW; have hx0 := hSW.c0; have hx1 := hSW.c1; have hx2 := hSW.c2; have hx3 := hSW.c3; have hl1 := hSW.lt; go_simp) <;> with_reducible rfl)))
  (refine wpAnyH_take (i := 2) (v := ?_) rfl (by kernel_rfl) (by kernel_rfl) (by kernel_rfl) (fun _ _ _ h => h) (Or.inl ⟨by rfl, ?_⟩) hS ?_; rotate_left; (focus ((intro W9 hSW; have hx0 := hSW.c0; have hx1 := hSW.c1; have hx2 := hSW.c2; have hx3 := hSW.c3; have hl1 := hSW.lt; go_simp) <;> with_reducible rfl)))
  (refine wpAnyH_ready (rs := [3]) (by kernel_rfl) (by simp) ?_; refine AllReadyH.cons rfl (fun K hK => ?_) AllReadyH.nil)
  go_simp
  go_at_call 80
  refine Calls.mono (hsz.out _) ?_
  rintro e' w2 ⟨A, rfl, hN2, hb2⟩
  refine hK.out _ _ (hS.keep hb2) (fun hS => ?_)
  (refine wpAnyH_ready (rs := [4]) (by kernel_rfl) (by simp) ?_; refine AllReadyH.cons rfl (fun K hK => ?_) AllReadyH.nil)
  go_simp
  go_at_call 54
  refine Calls.mono (hcm.out _ _ hS.num hN2) ?_
  rintro e' w3 ⟨rfl, hb3⟩
  refine hK.out _ _ (hS.keep hb3) (fun hS => ?_)
  (refine wpAnyH_take (i := 5) (v := ?_) rfl (by kernel_rfl) (by kernel_rfl) (by kernel_rfl) (fun _ _ _ h => h) (Or.inl ⟨by rfl, ?_⟩) hS ?_; rotate_left; (focus ((intro W9 hSW; have hx0 := hSW.c0; have hx1 := hSW.c1; have hx2 := hSW.c2; have hx3 := hSW.c3; have hl1 := hSW.lt; go_simp) <;> with_reducible rfl)))
  refine wpAnyH_done (by kernel_rfl) ?_ _
  have hfin := hS.bel
  clear hS1 hN2 hb2 hb3 hsz hcm
  rcases hcase with ⟨rfl, rfl⟩ | ⟨rfl, rfl⟩ | ⟨rfl, rfl⟩
  · go_wp2
    go_ret
    exact ⟨rfl, hfin⟩
  · rcases Nat.mod_two_eq_zero_or_one key with h9 | h9
    · have h9i : (key : Int) % 2 = 0 := by omega
      go_wp2
      go_ret
      exact ⟨by simp [h9], hfin⟩
    · have h9i : (key : Int) % 2 = 1 := by omega
      go_wp2
      go_ret
      exact ⟨by simp [h9], hfin⟩
  · go_wp2
    go_ret
    exact ⟨rfl, hfin⟩
end Go.Proofs.YtncfbleeidjflaaGreatDoor
namespace Go.Proofs.YtncfbleeidjflaaGreatDoor
open Go.RowKit Go.Cal
theorem pow_le64 (n : Nat) (h : n ≤ 64) : (2 : Int) ^ n ≤ 18446744073709551616 := by
  have : (2:Nat)^n ≤ 2^64 := Nat.pow_le_pow_right (by omega) h
  have e : ((2:Nat)^n : Nat) = ((2:Int)^n) := by push_cast; rfl
  omega
theorem pat_one {id : Int} {key : Nat} (he : mostE id true = 0) (hk : (key : Int) ≤ mostV id true) (h2 : fK id ≠ 2) (h0 : 0 < key) : patV id true key = 2 ^ (fW id).toNat - (key : Int) := by
  obtain ⟨i1, i2, i3⟩ := mostE_zero he
  unfold patV
  rw [if_neg (by simp), if_neg h2]
  have hlt : (key : Int) < 2 ^ (fW id).toNat := by
    rcases id_cases i1 i2 with rfl | rfl | rfl | rfl | rfl | rfl | rfl | rfl | rfl | rfl | rfl | rfl | rfl | rfl <;> simp [mostV, fK, fT, fW] at hk h2 i3 ⊢ <;> omega
  rw [Int.neg_emod, if_neg, Int.natAbs_of_nonneg (Int.le_of_lt (Int.pow_pos (by decide))), Int.emod_eq_of_lt (by omega) hlt]
  intro hd
  have := Int.le_of_dvd (by omega) hd
  omega
set_option maxRecDepth 100000 in
set_option maxHeartbeats 4000000 in
theorem rpat7_pos (id : Int) (key : Nat) (he : mostE id false = 0) (hk : (key : Int) ≤ mostV id false) (w : World) : Calls Tryz.prog 105 #[.int .i64 id, .bool false, .int .u64 (key : Nat)] w fun e w' => e = .returned (.tuple #[.int .u64 (patV id false key), .int .i64 0]) ∧ Below w.heap.size w w' := by
  have hmo := Lib.hid (rmost7_yes id false he w)
  obtain ⟨h1, h2, h3⟩ := mostE_zero he
  have hof := Lib.hid fun w => rof_yes id w h1 h2
  have hv : patV id false key = (key : Int) := by simp [patV]
  rw [hv]
  have hkn : ¬ mostV id false < (key : Int) := by omega
  clear he hk h3
  go_enter Tryz.func105, Tryz.ntmps105
  go_wp2_with fail
  refine hmo.out.mono ?_
  rintro e w1 ⟨rfl, hb1⟩
  go_wp2_with fail
  refine (hof.out _).mono ?_
  rintro e w2 ⟨rfl, hb2⟩
  have hal := (Below.refl w2.heap.size w2).alloc (Nat.le_refl _) (.cells #[.int .i64 (fK id), .int .i64 (fW id), .int .i64 (fM id), .int .i64 (fB id), .int .u64 (fT id), .int .u64 (fI id), .int .u64 (fN id)] 73)
  have hB2 := (hb1.trans (hb2.mono hb1.size)).trans (hal.mono (Nat.le_trans hb1.size hb2.size))
  clear hal hb1 hb2
  go_wp2
  go_ret2
  exact ⟨rfl, hB2⟩
set_option maxRecDepth 100000 in
set_option maxHeartbeats 4000000 in
theorem rpat7_two (id : Int) (key : Nat) (he : mostE id true = 0) (hk : (key : Int) ≤ mostV id true) (k2 : fK id = 2) (w : World) : Calls Tryz.prog 105 #[.int .i64 id, .bool true, .int .u64 (key : Nat)] w fun e w' => e = .returned (.tuple #[.int .u64 (patV id true key), .int .i64 0]) ∧ Below w.heap.size w w' := by
  have hmo := Lib.hid (rmost7_yes id true he w)
  obtain ⟨h1, h2, h3⟩ := mostE_zero he
  have hof := Lib.hid fun w => rof_yes id w h1 h2
  have hft := ft_bounds id
  have hsg := fun w => Lib.hid (rsign_yes (fK id) (fW id) (fM id) (fB id) (fT id) (fI id) (fN id) w (by omega) hft.2.1 (by rw [k2]; decide))
  have hv : patV id true key = (key : Int) + 2 ^ ((fW id).toNat - 1) := by simp [patV, k2]
  have hpl : (2 : Int) ^ ((fW id).toNat - 1) ≤ 9223372036854775808 := pow_le63 _ (by omega)
  have hpp := pow_pos ((fW id).toNat - 1)
  have hb2 := (pat_bnd he (Int.natCast_nonneg key) hk).2
  have hpw := pow_le64 (fW id).toNat (by omega)
  rw [hv] at hb2 ⊢
  have hkn : ¬ mostV id true < (key : Int) := by omega
  have hkk : (fK id == 2) = true := by simp [k2]
  obtain ⟨S, hS⟩ : ∃ S, (2 : Int) ^ ((fW id).toNat - 1) = S := ⟨_, rfl⟩
  rw [hS] at hsg hpl hpp hb2 ⊢
  have hlt : (key : Int) + S < 18446744073709551616 := by omega
  rw [k2] at hof hsg
  clear he hk h3 hft hS hv hb2 hpw k2
  go_enter Tryz.func105, Tryz.ntmps105
  go_wp2_with fail
  refine hmo.out.mono ?_
  rintro e w1 ⟨rfl, hb1⟩
  go_wp2_with fail
  refine (hof.out _).mono ?_
  rintro e w2 ⟨rfl, hb2⟩
  have hal := (Below.refl w2.heap.size w2).alloc (Nat.le_refl _) (.cells #[.int .i64 2, .int .i64 (fW id), .int .i64 (fM id), .int .i64 (fB id), .int .u64 (fT id), .int .u64 (fI id), .int .u64 (fN id)] 73)
  have hB2 := (hb1.trans (hb2.mono hb1.size)).trans (hal.mono (Nat.le_trans hb1.size hb2.size))
  clear hal hb1 hb2
  go_wp2_with fail
  refine (hsg _).out.mono ?_
  rintro e w3 ⟨rfl, hb3⟩
  have hB3 := hB2.trans (hb3.mono hB2.size)
  go_wp2
  go_ret2
  exact ⟨rfl, hB3⟩
set_option maxRecDepth 100000 in
set_option maxHeartbeats 4000000 in
theorem rpat7_neg (id : Int) (key : Nat) (he : mostE id true = 0) (hk : (key : Int) ≤ mostV id true) (k2 : fK id ≠ 2) (w : World) : Calls Tryz.prog 105 #[.int .i64 id, .bool true, .int .u64 (key : Nat)] w fun e w' => e = .returned (.tuple #[.int .u64 (patV id true key), .int .i64 0]) ∧ Below w.heap.size w w' := by
  have hmo := Lib.hid (rmost7_yes id true he w)
  obtain ⟨h1, h2, h3⟩ := mostE_zero he
  have hof := Lib.hid fun w => rof_yes id w h1 h2
  have hft := ft_bounds id
  have hkk : (fK id == 2) = false := by simp [k2]
  have hkn : ¬ mostV id true < (key : Int) := by omega
  rcases Nat.eq_zero_or_pos key with rfl | h0
  · have hv : patV id true ((0 : Nat) : Int) = 0 := by simp [patV, k2]
    rw [hv]
    clear he hk h3 hft hv
    go_enter Tryz.func105, Tryz.ntmps105
    go_wp2_with fail
    refine hmo.out.mono ?_
    rintro e w1 ⟨rfl, hb1⟩
    go_wp2_with fail
    refine (hof.out _).mono ?_
    rintro e w2 ⟨rfl, hb2⟩
    have hal := (Below.refl w2.heap.size w2).alloc (Nat.le_refl _) (.cells #[.int .i64 (fK id), .int .i64 (fW id), .int .i64 (fM id), .int .i64 (fB id), .int .u64 (fT id), .int .u64 (fI id), .int .u64 (fN id)] 73)
    have hB2 := (hb1.trans (hb2.mono hb1.size)).trans (hal.mono (Nat.le_trans hb1.size hb2.size))
    clear hal hb1 hb2
    go_wp2
    go_ret2
    exact ⟨rfl, hB2⟩
  have hmk := fun w => Lib.hid (rmask_any (fK id) (fW id) (fM id) (fB id) (fT id) (fI id) (fN id) w hft.1 hft.2.1)
  have hv := pat_one he hk k2 h0
  have hb2 := (pat_bnd he (Int.natCast_nonneg key) hk).1
  have hpw := pow_le64 (fW id).toNat (by omega)
  rw [hv] at hb2 ⊢
  obtain ⟨S, hS⟩ : ∃ S, (2 : Int) ^ (fW id).toNat = S := ⟨_, rfl⟩
  rw [hS] at hmk hpw hb2 ⊢
  have hk0 : ¬ (key : Int) = 0 := by omega
  have hfin : S - 1 - (key : Int) + 1 = S - (key : Int) := by omega
  have hr1 : 0 ≤ S - 1 - (key : Int) ∨ S - (key : Int) = 0 := by omega
  have hwr : IntKind.u64.wrap (IntKind.u64.wrap (S - 1 - (key : Int)) + 1) = S - (key : Int) := by
    rw [wrap_u64, wrap_u64]
    omega
  clear he hk h3 hft hS hv hr1
  go_enter Tryz.func105, Tryz.ntmps105
  go_wp2_with fail
  refine hmo.out.mono ?_
  rintro e w1 ⟨rfl, hb1⟩
  go_wp2_with fail
  refine (hof.out _).mono ?_
  rintro e w2 ⟨rfl, hb2⟩
  have hal := (Below.refl w2.heap.size w2).alloc (Nat.le_refl _) (.cells #[.int .i64 (fK id), .int .i64 (fW id), .int .i64 (fM id), .int .i64 (fB id), .int .u64 (fT id), .int .u64 (fI id), .int .u64 (fN id)] 73)
  have hB2 := (hb1.trans (hb2.mono hb1.size)).trans (hal.mono (Nat.le_trans hb1.size hb2.size))
  clear hal hb1 hb2
  go_wp2_with fail
  refine (hmk _).out.mono ?_
  rintro e w3 ⟨rfl, hb3⟩
  have hB3 := hB2.trans (hb3.mono hB2.size)
  go_wp2
  go_ret2
  exact ⟨by first | rfl | (simp; omega), hB3⟩
theorem rpat7_any (id : Int) (neg : Bool) (key : Nat) (he : mostE id neg = 0) (hk : (key : Int) ≤ mostV id neg) (w : World) : Calls Tryz.prog 105 #[.int .i64 id, .bool neg, .int .u64 (key : Nat)] w fun e w' => e = .returned (.tuple #[.int .u64 (patV id neg key), .int .i64 0]) ∧ Below w.heap.size w w' := by
  cases neg
  · exact rpat7_pos id key he hk w
  · by_cases k2 : fK id = 2
    · exact rpat7_two id key he hk k2 w
    · exact rpat7_neg id key he hk k2 w
end Go.Proofs.YtncfbleeidjflaaGreatDoor
