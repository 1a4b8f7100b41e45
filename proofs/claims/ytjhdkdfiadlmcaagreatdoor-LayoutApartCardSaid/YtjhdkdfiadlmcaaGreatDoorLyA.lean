/- What is proved: the statement LayoutApart: whatever the input, the call tells true and the arguments read as they did. Condition: the package-level tables read as the program's text lays them, which the card ties. -/
/- The law LayoutApart, walked. Conditions: the variables that the library reads. -/
import Derived.Test.YtjhdkdfiadlmcaaGreatDoorLyCom
import Derived.Deep.RegionHeld3
namespace Go.Proofs.YtjhdkdfiadlmcaaGreatDoor
open Go.RowKit Go.Cal
section
variable {w W W' : World} {n1 n2 : Bool} {A1 A2 : Option Addr} {m1 m2 c1 c2 N1 N2 : Nat} {k1 k2 : Int}
theorem boxA (h : LiveP w W [pT (.slice A2 m2 c2) 128 N2, pT (.slice A1 m1 c1) 128 N1, pBlk (w.heap.size + 1) #[.bool n2, .slice A2 m2 c2, .int .i64 k2] 25, pBlk w.heap.size #[.bool n1, .slice A1 m1 c1, .int .i64 k1] 25]) : LiveP w W [pT (.slice A2 m2 c2) 128 N2, pT (.slice A1 m1 c1) 128 N1, pBlk (w.heap.size + 1) #[.bool n2, .slice A2 m2 c2, .int .i64 k2] 25, pBlk w.heap.size #[.bool n1, .slice A1 m1 c1, .int .i64 k1] 25] ∧ w.heap.size + 1 < (W).heap.size ∧ (W).cell? ⟨w.heap.size, 0, none⟩ = some (.bool n1) ∧ (W).cell? ⟨w.heap.size, 1, none⟩ = some (.slice A1 m1 c1) ∧ (W).cell? ⟨w.heap.size, 2, none⟩ = some (.int .i64 k1) ∧ (W).cell? ⟨w.heap.size + 1, 0, none⟩ = some (.bool n2) ∧ (W).cell? ⟨w.heap.size + 1, 1, none⟩ = some (.slice A2 m2 c2) ∧ (W).cell? ⟨w.heap.size + 1, 2, none⟩ = some (.int .i64 k2) := by
  have p1 := h.get (P := pBlk w.heap.size #[.bool n1, .slice A1 m1 c1, .int .i64 k1] 25) (by repeat (first | exact List.mem_cons_self | apply List.mem_cons_of_mem))
  have p2 := h.get (P := pBlk (w.heap.size + 1) #[.bool n2, .slice A2 m2 c2, .int .i64 k2] 25) (by repeat (first | exact List.mem_cons_self | apply List.mem_cons_of_mem))
  have e := p2.cell 0 _ rfl
  exact ⟨h, cell_lt e, p1.cell 0 _ rfl, p1.cell 1 _ rfl, p1.cell 2 _ rfl, e, p2.cell 1 _ rfl, p2.cell 2 _ rfl⟩
theorem keepA (h : LiveP w W [pT (.slice A2 m2 c2) 128 N2, pT (.slice A1 m1 c1) 128 N1, pBlk (w.heap.size + 1) #[.bool n2, .slice A2 m2 c2, .int .i64 k2] 25, pBlk w.heap.size #[.bool n1, .slice A1 m1 c1, .int .i64 k1] 25] ∧ w.heap.size + 1 < (W).heap.size ∧ (W).cell? ⟨w.heap.size, 0, none⟩ = some (.bool n1) ∧ (W).cell? ⟨w.heap.size, 1, none⟩ = some (.slice A1 m1 c1) ∧ (W).cell? ⟨w.heap.size, 2, none⟩ = some (.int .i64 k1) ∧ (W).cell? ⟨w.heap.size + 1, 0, none⟩ = some (.bool n2) ∧ (W).cell? ⟨w.heap.size + 1, 1, none⟩ = some (.slice A2 m2 c2) ∧ (W).cell? ⟨w.heap.size + 1, 2, none⟩ = some (.int .i64 k2)) (hb : Below W.heap.size W W') : LiveP w W' [pT (.slice A2 m2 c2) 128 N2, pT (.slice A1 m1 c1) 128 N1, pBlk (w.heap.size + 1) #[.bool n2, .slice A2 m2 c2, .int .i64 k2] 25, pBlk w.heap.size #[.bool n1, .slice A1 m1 c1, .int .i64 k1] 25] ∧ w.heap.size + 1 < (W').heap.size ∧ (W').cell? ⟨w.heap.size, 0, none⟩ = some (.bool n1) ∧ (W').cell? ⟨w.heap.size, 1, none⟩ = some (.slice A1 m1 c1) ∧ (W').cell? ⟨w.heap.size, 2, none⟩ = some (.int .i64 k1) ∧ (W').cell? ⟨w.heap.size + 1, 0, none⟩ = some (.bool n2) ∧ (W').cell? ⟨w.heap.size + 1, 1, none⟩ = some (.slice A2 m2 c2) ∧ (W').cell? ⟨w.heap.size + 1, 2, none⟩ = some (.int .i64 k2) := boxA (h.1.go hb)
theorem layA1 (hW : LyW w) (h : LiveP w W [pT (.slice A2 m2 c2) 128 N2, pT (.slice A1 m1 c1) 128 N1, pBlk (w.heap.size + 1) #[.bool n2, .slice A2 m2 c2, .int .i64 k2] 25, pBlk w.heap.size #[.bool n1, .slice A1 m1 c1, .int .i64 k1] 25] ∧ w.heap.size + 1 < (W).heap.size ∧ (W).cell? ⟨w.heap.size, 0, none⟩ = some (.bool n1) ∧ (W).cell? ⟨w.heap.size, 1, none⟩ = some (.slice A1 m1 c1) ∧ (W).cell? ⟨w.heap.size, 2, none⟩ = some (.int .i64 k1) ∧ (W).cell? ⟨w.heap.size + 1, 0, none⟩ = some (.bool n2) ∧ (W).cell? ⟨w.heap.size + 1, 1, none⟩ = some (.slice A2 m2 c2) ∧ (W).cell? ⟨w.heap.size + 1, 2, none⟩ = some (.int .i64 k2)) {T : List UInt8} (hT : lyR n1 N1 k1 = T) : Calls Tryz.prog 12 #[.agg #[.bool n1, .slice A1 m1 c1, .int .i64 k1]] W fun e w' => e = .returned (.string (strL T)) ∧ Below W.heap.size W w' := by
  subst hT
  exact layout_any n1 k1 (hW.below h.1.below).tab (h.1.get (P := pT (.slice A1 m1 c1) 128 N1) (by repeat (first | exact List.mem_cons_self | apply List.mem_cons_of_mem)))
theorem layA2 (hW : LyW w) (h : LiveP w W [pT (.slice A2 m2 c2) 128 N2, pT (.slice A1 m1 c1) 128 N1, pBlk (w.heap.size + 1) #[.bool n2, .slice A2 m2 c2, .int .i64 k2] 25, pBlk w.heap.size #[.bool n1, .slice A1 m1 c1, .int .i64 k1] 25] ∧ w.heap.size + 1 < (W).heap.size ∧ (W).cell? ⟨w.heap.size, 0, none⟩ = some (.bool n1) ∧ (W).cell? ⟨w.heap.size, 1, none⟩ = some (.slice A1 m1 c1) ∧ (W).cell? ⟨w.heap.size, 2, none⟩ = some (.int .i64 k1) ∧ (W).cell? ⟨w.heap.size + 1, 0, none⟩ = some (.bool n2) ∧ (W).cell? ⟨w.heap.size + 1, 1, none⟩ = some (.slice A2 m2 c2) ∧ (W).cell? ⟨w.heap.size + 1, 2, none⟩ = some (.int .i64 k2)) {T : List UInt8} (hT : lyR n2 N2 k2 = T) : Calls Tryz.prog 12 #[.agg #[.bool n2, .slice A2 m2 c2, .int .i64 k2]] W fun e w' => e = .returned (.string (strL T)) ∧ Below W.heap.size W w' := by
  subst hT
  exact layout_any n2 k2 (hW.below h.1.below).tab (h.1.get (P := pT (.slice A2 m2 c2) 128 N2) (by repeat (first | exact List.mem_cons_self | apply List.mem_cons_of_mem)))
theorem layA3 (hW : LyW w) (h : LiveP w W [pT (.slice A2 m2 c2) 128 N2, pT (.slice A1 m1 c1) 128 N1, pBlk (w.heap.size + 1) #[.bool n2, .slice A2 m2 c2, .int .i64 k2] 25, pBlk w.heap.size #[.bool n1, .slice A1 m1 c1, .int .i64 k1] 25] ∧ w.heap.size + 1 < (W).heap.size ∧ (W).cell? ⟨w.heap.size, 0, none⟩ = some (.bool n1) ∧ (W).cell? ⟨w.heap.size, 1, none⟩ = some (.slice A1 m1 c1) ∧ (W).cell? ⟨w.heap.size, 2, none⟩ = some (.int .i64 k1) ∧ (W).cell? ⟨w.heap.size + 1, 0, none⟩ = some (.bool n2) ∧ (W).cell? ⟨w.heap.size + 1, 1, none⟩ = some (.slice A2 m2 c2) ∧ (W).cell? ⟨w.heap.size + 1, 2, none⟩ = some (.int .i64 k2)) {T : List UInt8} (hT : lyR n1 N1 k1 = T) {A : Option Addr} {m c : Nat} (hv : IsT W (.slice A m c) 128 N1) : Calls Tryz.prog 12 #[.agg #[.bool n1, .slice A m c, .int .i64 k1]] W fun e w' => e = .returned (.string (strL T)) ∧ Below W.heap.size W w' := by
  subst hT
  exact layout_any n1 k1 (hW.below h.1.below).tab hv
theorem sameA (h : LiveP w W [pT (.slice A2 m2 c2) 128 N2, pT (.slice A1 m1 c1) 128 N1, pBlk (w.heap.size + 1) #[.bool n2, .slice A2 m2 c2, .int .i64 k2] 25, pBlk w.heap.size #[.bool n1, .slice A1 m1 c1, .int .i64 k1] 25] ∧ w.heap.size + 1 < (W).heap.size ∧ (W).cell? ⟨w.heap.size, 0, none⟩ = some (.bool n1) ∧ (W).cell? ⟨w.heap.size, 1, none⟩ = some (.slice A1 m1 c1) ∧ (W).cell? ⟨w.heap.size, 2, none⟩ = some (.int .i64 k1) ∧ (W).cell? ⟨w.heap.size + 1, 0, none⟩ = some (.bool n2) ∧ (W).cell? ⟨w.heap.size + 1, 1, none⟩ = some (.slice A2 m2 c2) ∧ (W).cell? ⟨w.heap.size + 1, 2, none⟩ = some (.int .i64 k2)) {b : Bool} (hb : decide (n1 = n2 ∧ k1 = k2 ∧ N1 = N2) = b) : Calls Tryz.prog 16 #[.agg #[.bool n1, .slice A1 m1 c1, .int .i64 k1], .agg #[.bool n2, .slice A2 m2 c2, .int .i64 k2]] W fun e w' => e = .returned (.bool b) ∧ Below W.heap.size W w' := by
  subst hb
  exact lsame_t n1 n2 k1 k2 (IsT.isN (h.1.get (P := pT (.slice A1 m1 c1) 128 N1) (by repeat (first | exact List.mem_cons_self | apply List.mem_cons_of_mem)))) (IsT.isN (h.1.get (P := pT (.slice A2 m2 c2) 128 N2) (by repeat (first | exact List.mem_cons_self | apply List.mem_cons_of_mem)))) (by decide) (by decide)
theorem normA (h : LiveP w W [pT (.slice A2 m2 c2) 128 N2, pT (.slice A1 m1 c1) 128 N1, pBlk (w.heap.size + 1) #[.bool n2, .slice A2 m2 c2, .int .i64 k2] 25, pBlk w.heap.size #[.bool n1, .slice A1 m1 c1, .int .i64 k1] 25] ∧ w.heap.size + 1 < (W).heap.size ∧ (W).cell? ⟨w.heap.size, 0, none⟩ = some (.bool n1) ∧ (W).cell? ⟨w.heap.size, 1, none⟩ = some (.slice A1 m1 c1) ∧ (W).cell? ⟨w.heap.size, 2, none⟩ = some (.int .i64 k1) ∧ (W).cell? ⟨w.heap.size + 1, 0, none⟩ = some (.bool n2) ∧ (W).cell? ⟨w.heap.size + 1, 1, none⟩ = some (.slice A2 m2 c2) ∧ (W).cell? ⟨w.heap.size + 1, 2, none⟩ = some (.int .i64 k2)) : Calls Tryz.prog 17 #[.slice A1 m1 c1] W fun e w' => ∃ A m c, e = .returned (.slice A m c) ∧ IsT w' (.slice A m c) 128 N1 ∧ Below W.heap.size W w' := by
  refine (norm_t (IsT.isN (h.1.get (P := pT (.slice A1 m1 c1) 128 N1) (by repeat (first | exact List.mem_cons_self | apply List.mem_cons_of_mem)))) (by decide)).mono ?_
  rintro e w' ⟨v, rfl, hv, hb⟩
  obtain ⟨A, c, zs, rfl, -⟩ := id hv
  exact ⟨A, _, c, rfl, hv, hb⟩
end
set_option maxRecDepth 100000 in
set_option maxHeartbeats 4000000 in
theorem apart_both {w : World} {A1 A2 : Option Addr} {m1 m2 c1 c2 N1 N2 : Nat} (n1 n2 : Bool) (k1 k2 : Int) (hW : LyW w) (h1 : IsT w (.slice A1 m1 c1) 128 N1) (h2 : IsT w (.slice A2 m2 c2) 128 N2) (r1 : DRight N1 k1) (r2 : DRight N2 k2) :
    Calls Tryz.prog 6 #[.agg #[.bool n1, .slice A1 m1 c1, .int .i64 k1], .agg #[.bool n2, .slice A2 m2 c2, .int .i64 k2]] w fun e w' => e = .returned (.bool true) ∧ Below w.heap.size w w' := by
  obtain ⟨b, hbe⟩ : ∃ b, decide (n1 = n2 ∧ k1 = k2 ∧ N1 = N2) = b := ⟨_, rfl⟩
  obtain ⟨T1, hT1⟩ : ∃ T, lyR n1 N1 k1 = T := ⟨_, rfl⟩
  obtain ⟨T2, hT2⟩ : ∃ T, lyR n2 N2 k2 = T := ⟨_, rfl⟩
  have hcmp : ((strL T1).toList == (strL T2).toList) = b := by
    rw [strL_toL', strL_toL', ← hbe, ← hT1, ← hT2]
    unfold lyR
    rw [if_pos r1, if_pos r2]
    by_cases h : n1 = n2 ∧ k1 = k2 ∧ N1 = N2
    · obtain ⟨rfl, rfl, rfl⟩ := h
      rw [decide_eq_true ⟨rfl, rfl, rfl⟩]
      exact beq_self_eq_true _
    · rw [decide_eq_false h, beq_eq_false_iff_ne]
      intro e
      obtain ⟨e1, e2, e3⟩ := lyT_inj r1 r2 e
      exact h ⟨e1, e3, e2⟩
  have hb0 : Below w.heap.size w ((w.alloc (.cells #[.bool n1, .slice A1 m1 c1, .int .i64 k1] 25)).alloc (.cells #[.bool n2, .slice A2 m2 c2, .int .i64 k2] 25)) := ((Below.refl _ _).alloc (Nat.le_refl _) _).alloc (by simp) _
  have hL : LiveP w ((w.alloc (.cells #[.bool n1, .slice A1 m1 c1, .int .i64 k1] 25)).alloc (.cells #[.bool n2, .slice A2 m2 c2, .int .i64 k2] 25)) [pT (.slice A2 m2 c2) 128 N2, pT (.slice A1 m1 c1) 128 N1, pBlk (w.heap.size + 1) #[.bool n2, .slice A2 m2 c2, .int .i64 k2] 25, pBlk w.heap.size #[.bool n1, .slice A1 m1 c1, .int .i64 k1] 25] := by
    refine (LiveP.put (LiveP.put (LiveP.put (LiveP.put ((LiveP.start w).go hb0) (pBlk_st _ _ _) ?_) (pBlk_st _ _ _) ?_) (pT_st _ _ _) (h1.below hb0)) (pT_st _ _ _) (h2.below hb0))
    · exact (pBlk_made w #[.bool n1, .slice A1 m1 c1, .int .i64 k1] 25).alloc _
    · exact pBlk_madeL (w.alloc (.cells #[.bool n1, .slice A1 m1 c1, .int .i64 k1] 25)) #[.bool n2, .slice A2 m2 c2, .int .i64 k2] 25 (w.heap.size + 1) (by simp)
  have hrt1 := fun (W : World) (h : LiveP w W [pT (.slice A2 m2 c2) 128 N2, pT (.slice A1 m1 c1) 128 N1, pBlk (w.heap.size + 1) #[.bool n2, .slice A2 m2 c2, .int .i64 k2] 25, pBlk w.heap.size #[.bool n1, .slice A1 m1 c1, .int .i64 k1] 25]) => right_t n1 k1 (hW.below h.below).tab (h.get (P := pT (.slice A1 m1 c1) 128 N1) (by repeat (first | exact List.mem_cons_self | apply List.mem_cons_of_mem)))
  have hrt2 := fun (W : World) (h : LiveP w W [pT (.slice A2 m2 c2) 128 N2, pT (.slice A1 m1 c1) 128 N1, pBlk (w.heap.size + 1) #[.bool n2, .slice A2 m2 c2, .int .i64 k2] 25, pBlk w.heap.size #[.bool n1, .slice A1 m1 c1, .int .i64 k1] 25]) => right_t n2 k2 (hW.below h.below).tab (h.get (P := pT (.slice A2 m2 c2) 128 N2) (by repeat (first | exact List.mem_cons_self | apply List.mem_cons_of_mem)))
  rw [decide_eq_true r1] at hrt1
  rw [decide_eq_true r2] at hrt2
  replace hrt1 := Lib.hid hrt1
  replace hrt2 := Lib.hid hrt2
  replace hbe := Lib.hid hbe
  replace hT1 := Lib.hid hT1
  replace hT2 := Lib.hid hT2
  clear h1 h2 r1 r2 hb0
  go_enter Tryz.func6, Tryz.ntmps6
  go_wp2_with fail
  refine (lshown_any _ (hW.below hL.below)).mono ?_
  rintro e v1 ⟨rfl, hb⟩
  replace hL := hL.go hb
  clear hb
  have hh := boxA hL
  go_wp2_with fail
  refine (hrt1.out _ hL).mono ?_
  rintro e v2 ⟨rfl, hb⟩
  replace hL := hL.go hb
  clear hb hh
  have hh := boxA hL
  go_wp2_with fail
  refine (hrt2.out _ hL).mono ?_
  rintro e v3 ⟨rfl, hb⟩
  replace hL := hL.go hb
  clear hb hh
  have hS0 := boxA (hL.go (Below.refl _ _).drew)
  go_wp2_with fail
  go_region_held3 (fun w' => LiveP w w' [pT (.slice A2 m2 c2) 128 N2, pT (.slice A1 m1 c1) 128 N1, pBlk (w.heap.size + 1) #[.bool n2, .slice A2 m2 c2, .int .i64 k2] 25, pBlk w.heap.size #[.bool n1, .slice A1 m1 c1, .int .i64 k1] 25] ∧ w.heap.size + 1 < (w').heap.size ∧ (w').cell? ⟨w.heap.size, 0, none⟩ = some (.bool n1) ∧ (w').cell? ⟨w.heap.size, 1, none⟩ = some (.slice A1 m1 c1) ∧ (w').cell? ⟨w.heap.size, 2, none⟩ = some (.int .i64 k1) ∧ (w').cell? ⟨w.heap.size + 1, 0, none⟩ = some (.bool n2) ∧ (w').cell? ⟨w.heap.size + 1, 1, none⟩ = some (.slice A2 m2 c2) ∧ (w').cell? ⟨w.heap.size + 1, 2, none⟩ = some (.int .i64 k2)) (first | exact hS0 | with_reducible assumption | exact keepA (by with_reducible assumption) (by with_reducible assumption))
    (first
      | (go_at_call 16; with_reducible refine (sameA (by with_reducible assumption) hbe.out).mono ?_; rintro e w4 ⟨rfl, hb4⟩)
      | (go_at_call 17; with_reducible refine (normA (by with_reducible assumption)).mono ?_; rintro e w6 ⟨A6, m6, c6, rfl, hv6, hb6⟩)
      | (go_at_call 12; with_reducible refine (layA2 hW (by with_reducible assumption) hT2.out).mono ?_; rintro e w3 ⟨rfl, hb3⟩)
      | (go_at_call 12; with_reducible refine (layA1 hW (by with_reducible assumption) hT1.out).mono ?_; rintro e w5 ⟨rfl, hb5⟩)
      | (go_at_call 12; with_reducible refine (layA3 hW (by with_reducible assumption) hT1.out hv6).mono ?_; rintro e w7 ⟨rfl, hb7⟩))
  all_goals
    go_wp2
    go_ret
    first
      | exact ⟨rfl, (show LiveP w w7 [pT (.slice A2 m2 c2) 128 N2, pT (.slice A1 m1 c1) 128 N1, pBlk (w.heap.size + 1) #[.bool n2, .slice A2 m2 c2, .int .i64 k2] 25, pBlk w.heap.size #[.bool n1, .slice A1 m1 c1, .int .i64 k1] 25] ∧ w.heap.size + 1 < (w7).heap.size ∧ (w7).cell? ⟨w.heap.size, 0, none⟩ = some (.bool n1) ∧ (w7).cell? ⟨w.heap.size, 1, none⟩ = some (.slice A1 m1 c1) ∧ (w7).cell? ⟨w.heap.size, 2, none⟩ = some (.int .i64 k1) ∧ (w7).cell? ⟨w.heap.size + 1, 0, none⟩ = some (.bool n2) ∧ (w7).cell? ⟨w.heap.size + 1, 1, none⟩ = some (.slice A2 m2 c2) ∧ (w7).cell? ⟨w.heap.size + 1, 2, none⟩ = some (.int .i64 k2) by with_reducible assumption).1.below⟩
      | exact ⟨rfl, chain (show LiveP w w6 [pT (.slice A2 m2 c2) 128 N2, pT (.slice A1 m1 c1) 128 N1, pBlk (w.heap.size + 1) #[.bool n2, .slice A2 m2 c2, .int .i64 k2] 25, pBlk w.heap.size #[.bool n1, .slice A1 m1 c1, .int .i64 k1] 25] ∧ w.heap.size + 1 < (w6).heap.size ∧ (w6).cell? ⟨w.heap.size, 0, none⟩ = some (.bool n1) ∧ (w6).cell? ⟨w.heap.size, 1, none⟩ = some (.slice A1 m1 c1) ∧ (w6).cell? ⟨w.heap.size, 2, none⟩ = some (.int .i64 k1) ∧ (w6).cell? ⟨w.heap.size + 1, 0, none⟩ = some (.bool n2) ∧ (w6).cell? ⟨w.heap.size + 1, 1, none⟩ = some (.slice A2 m2 c2) ∧ (w6).cell? ⟨w.heap.size + 1, 2, none⟩ = some (.int .i64 k2) by with_reducible assumption).1.below hb7⟩
/-- The second one is not right. -/
theorem apart_one {w : World} {A1 A2 : Option Addr} {m1 m2 c1 c2 N1 : Nat} (n1 n2 : Bool) (k1 k2 : Int) (hW : LyW w) (h1 : IsT w (.slice A1 m1 c1) 128 N1) (hno : NoD w (.agg #[.bool n2, .slice A2 m2 c2, .int .i64 k2])) (r1 : DRight N1 k1) :
    Calls Tryz.prog 6 #[.agg #[.bool n1, .slice A1 m1 c1, .int .i64 k1], .agg #[.bool n2, .slice A2 m2 c2, .int .i64 k2]] w fun e w' => e = .returned (.bool true) ∧ Below w.heap.size w w' := by
  have hb0 : Below w.heap.size w ((w.alloc (.cells #[.bool n1, .slice A1 m1 c1, .int .i64 k1] 25)).alloc (.cells #[.bool n2, .slice A2 m2 c2, .int .i64 k2] 25)) := ((Below.refl _ _).alloc (Nat.le_refl _) _).alloc (by simp) _
  have hL : LiveP w ((w.alloc (.cells #[.bool n1, .slice A1 m1 c1, .int .i64 k1] 25)).alloc (.cells #[.bool n2, .slice A2 m2 c2, .int .i64 k2] 25)) [pT (.slice A1 m1 c1) 128 N1, pBlk (w.heap.size + 1) #[.bool n2, .slice A2 m2 c2, .int .i64 k2] 25, pBlk w.heap.size #[.bool n1, .slice A1 m1 c1, .int .i64 k1] 25] := by
    refine (LiveP.put (LiveP.put (LiveP.put ((LiveP.start w).go hb0) (pBlk_st _ _ _) ?_) (pBlk_st _ _ _) ?_) (pT_st _ _ _) (h1.below hb0))
    · exact (pBlk_made w #[.bool n1, .slice A1 m1 c1, .int .i64 k1] 25).alloc _
    · exact pBlk_madeL (w.alloc (.cells #[.bool n1, .slice A1 m1 c1, .int .i64 k1] 25)) #[.bool n2, .slice A2 m2 c2, .int .i64 k2] 25 (w.heap.size + 1) (by simp)
  have hrt1 := fun (W : World) (hT : Tab10 W) (h : pT (.slice A1 m1 c1) 128 N1 W) => right_t n1 k1 hT h
  rw [decide_eq_true r1] at hrt1
  replace hrt1 := Lib.hid hrt1
  have hno1 := Lib.hid hno
  clear h1 r1 hb0 hno
  go_enter Tryz.func6, Tryz.ntmps6
  go_wp2_with fail
  refine (lshown_any _ (hW.below hL.below)).mono ?_
  rintro e v1 ⟨rfl, hb⟩
  replace hL := hL.go hb
  clear hb
  have q0 := (hL.get (P := pBlk w.heap.size #[.bool n1, .slice A1 m1 c1, .int .i64 k1] 25) (by repeat (first | exact List.mem_cons_self | apply List.mem_cons_of_mem))).cell 0 _ rfl
  have q1 := (hL.get (P := pBlk w.heap.size #[.bool n1, .slice A1 m1 c1, .int .i64 k1] 25) (by repeat (first | exact List.mem_cons_self | apply List.mem_cons_of_mem))).cell 1 _ rfl
  have q2 := (hL.get (P := pBlk w.heap.size #[.bool n1, .slice A1 m1 c1, .int .i64 k1] 25) (by repeat (first | exact List.mem_cons_self | apply List.mem_cons_of_mem))).cell 2 _ rfl
  go_wp2_with fail
  refine (hrt1.out _ (hW.below hL.below).tab (hL.get (P := pT (.slice A1 m1 c1) 128 N1) (by repeat (first | exact List.mem_cons_self | apply List.mem_cons_of_mem)))).mono ?_
  rintro e v2 ⟨rfl, hb⟩
  replace hL := hL.go hb
  clear hb q0 q1 q2
  have q0 := (hL.get (P := pBlk (w.heap.size + 1) #[.bool n2, .slice A2 m2 c2, .int .i64 k2] 25) (by repeat (first | exact List.mem_cons_self | apply List.mem_cons_of_mem))).cell 0 _ rfl
  have q1 := (hL.get (P := pBlk (w.heap.size + 1) #[.bool n2, .slice A2 m2 c2, .int .i64 k2] 25) (by repeat (first | exact List.mem_cons_self | apply List.mem_cons_of_mem))).cell 1 _ rfl
  have q2 := (hL.get (P := pBlk (w.heap.size + 1) #[.bool n2, .slice A2 m2 c2, .int .i64 k2] 25) (by repeat (first | exact List.mem_cons_self | apply List.mem_cons_of_mem))).cell 2 _ rfl
  go_wp2_with fail
  refine ((hno1.out _ hL.below).1).mono ?_
  rintro e v3 ⟨rfl, hb⟩
  replace hL := hL.go hb
  clear hb q0 q1 q2
  go_wp2
  go_ret
  exact ⟨rfl, hL.below⟩
/-- The first one is not right. -/
theorem apart_none {w : World} {A1 A2 : Option Addr} {m1 m2 c1 c2 : Nat} (n1 n2 : Bool) (k1 k2 : Int) (hW : LyW w) (hno : NoD w (.agg #[.bool n1, .slice A1 m1 c1, .int .i64 k1])) :
    Calls Tryz.prog 6 #[.agg #[.bool n1, .slice A1 m1 c1, .int .i64 k1], .agg #[.bool n2, .slice A2 m2 c2, .int .i64 k2]] w fun e w' => e = .returned (.bool true) ∧ Below w.heap.size w w' := by
  have hb0 : Below w.heap.size w ((w.alloc (.cells #[.bool n1, .slice A1 m1 c1, .int .i64 k1] 25)).alloc (.cells #[.bool n2, .slice A2 m2 c2, .int .i64 k2] 25)) := ((Below.refl _ _).alloc (Nat.le_refl _) _).alloc (by simp) _
  have hL : LiveP w ((w.alloc (.cells #[.bool n1, .slice A1 m1 c1, .int .i64 k1] 25)).alloc (.cells #[.bool n2, .slice A2 m2 c2, .int .i64 k2] 25)) [pBlk w.heap.size #[.bool n1, .slice A1 m1 c1, .int .i64 k1] 25] := by
    refine LiveP.put ((LiveP.start w).go hb0) (pBlk_st _ _ _) ?_
    exact (pBlk_made w #[.bool n1, .slice A1 m1 c1, .int .i64 k1] 25).alloc _
  have hno1 := Lib.hid hno
  clear hb0 hno
  go_enter Tryz.func6, Tryz.ntmps6
  go_wp2_with fail
  refine (lshown_any _ (hW.below hL.below)).mono ?_
  rintro e v1 ⟨rfl, hb⟩
  replace hL := hL.go hb
  clear hb
  have q0 := (hL.get (P := pBlk w.heap.size #[.bool n1, .slice A1 m1 c1, .int .i64 k1] 25) (by repeat (first | exact List.mem_cons_self | apply List.mem_cons_of_mem))).cell 0 _ rfl
  have q1 := (hL.get (P := pBlk w.heap.size #[.bool n1, .slice A1 m1 c1, .int .i64 k1] 25) (by repeat (first | exact List.mem_cons_self | apply List.mem_cons_of_mem))).cell 1 _ rfl
  have q2 := (hL.get (P := pBlk w.heap.size #[.bool n1, .slice A1 m1 c1, .int .i64 k1] 25) (by repeat (first | exact List.mem_cons_self | apply List.mem_cons_of_mem))).cell 2 _ rfl
  go_wp2_with fail
  refine ((hno1.out _ hL.below).1).mono ?_
  rintro e v3 ⟨rfl, hb⟩
  replace hL := hL.go hb
  clear hb q0 q1 q2
  go_wp2
  go_ret
  exact ⟨rfl, hL.below⟩
theorem layoutApart_any (v1 : Value) (n1 : Bool) (k1 : Int) (v2 : Value) (n2 : Bool) (k2 : Int) (w : World) (hW : LyW w) (h1 : ArgN w v1) (_ : -9223372036854775808 ≤ k1 ∧ k1 ≤ 9223372036854775807) (h2 : ArgN w v2) (_ : -9223372036854775808 ≤ k2 ∧ k2 ≤ 9223372036854775807) :
    Calls Tryz.prog 6 #[.agg #[.bool n1, v1, .int .i64 k1], .agg #[.bool n2, v2, .int .i64 k2]] w fun e w' => e = .returned (.bool true) ∧ Below w.heap.size w w' := by
  obtain ⟨A1, m1, c1, rfl, ⟨N1, i1, r1⟩ | h1⟩ := dig_cases n1 k1 hW.tab h1
  · obtain ⟨A2, m2, c2, rfl, ⟨N2, i2, r2⟩ | h2⟩ := dig_cases n2 k2 hW.tab h2
    · exact apart_both n1 n2 k1 k2 hW i1 i2 r1 r2
    · exact apart_one n1 n2 k1 k2 hW i1 h2 r1
  · obtain ⟨A2, m2, c2, rfl, _⟩ := dig_cases n2 k2 hW.tab h2
    exact apart_none n1 n2 k1 k2 hW h1
end Go.Proofs.YtjhdkdfiadlmcaaGreatDoor
namespace Go.Proofs.YtjhdkdfiadlmcaaGreatDoor
open Go.ChangeShapes Go.WideShapes Go.ChangeAt Go.RowKit Go.Cal
set_option maxRecDepth 100000 in
theorem layoutApart_lifted (os : Os) (started : os.Started) (H : Type) (enc : TypeId × Value → H) :
    ReturnsInHanded {} Tryz.checked os 6 .any (fun w args => (Rows.layoutApartSpec.pre enc Tryz.prog Tryz.f6 [] false w args ∧ laidMetH Tryz.prog Rows.layoutApartRow.laid w) ∧ sizedMet enc Tryz.prog Tryz.f6 (OpenSpec.ofChange Rows.layoutApartSpec) false w args)
      (Rows.layoutApartSpec.post enc Tryz.prog Tryz.f6 false true false false) := by
  refine returnsInHanded_of_change_and_sh (C := Tryz.checked) (X := fun w _ => laidMetH Tryz.prog Rows.layoutApartRow.laid w) (fun _ _ _ hh h => h.of_heap hh) own started (by kernel_rfl) Tryz.func6
    (ChangeSpec.witness_shaped (enc := enc) (C := Tryz.checked) (os := os) (X := fun w _ => laidMetH Tryz.prog Rows.layoutApartRow.laid w) false (World.laidAll Tryz.prog os Rows.layoutApartRow.laid) #[.agg #[.bool false, .slice none 0 0, .int .i64 0], .agg #[.bool false, .slice none 0 0, .int .i64 0]] 8 (World.laidAll_os _ _ _)
      (World.shaped_of_ZipB (by kernel_rfl) (by kernel_rfl)) (by kernel_rfl) (by kernel_rfl) (by kernel_rfl)
      (by rw [MakeChecks.laidMetH_plain _ _ _ (by kernel_rfl)]; exact laidMet_laidAll _ (by kernel_rfl) (by kernel_rfl))) ?_
  intro W base args ds gs before hval0 hW hL hsh
  have hval : ∀ (j : Nat) t v, Tryz.f6.params[j]? = some t → args[j]? = some v → Value.okWide Tryz.prog W .any base t v := hval0
  have hW' := hW
  obtain ⟨p, q, hA0, hV, rfl, hfz, hnd⟩ := hW
  have hA : DataW.TrodAll enc Tryz.prog W 0 (fun _ => true) true Tryz.f6.params.toList args.toList ds p := hA0
  rw [Tryz.params6] at hA hval
  obtain ⟨v0, v1, d0, d1, p0, p1, rfl, rfl, rfl, h0, h1⟩ := trodAll_two hA
  obtain ⟨rfl, rfl⟩ := trodVars_none hV
  have hlt := fun x hx => hW'.lt x hx
  simp only [List.append_nil, List.mem_append] at hlt
  have hl0 : ∀ x ∈ p0, x.block < W.heap.size := fun x hx => hlt x (by first | exact hx | simp [hx])
  obtain ⟨n0, u0, k0, rfl, ha0, kb0, kc0⟩ := argD_of (hval 0 25 v0 rfl rfl) h0 hl0
  have hl1 : ∀ x ∈ p1, x.block < W.heap.size := fun x hx => hlt x (by first | exact hx | simp [hx])
  obtain ⟨n1, u1, k1, rfl, ha1, kb1, kc1⟩ := argD_of (hval 1 25 v1 rfl rfl) h1 hl1
  have hT : LyW W := lyW_of_laid (laid := Rows.layoutApartRow.laid) (by rw [MakeChecks.laidMetH_plain _ _ _ (by kernel_rfl)] at hL; exact hL) hsh (by dsimp only [Rows.layoutApartRow]; repeat (first | exact List.mem_cons_self | apply List.mem_cons_of_mem)) (by dsimp only [Rows.layoutApartRow]; repeat (first | exact List.mem_cons_self | apply List.mem_cons_of_mem)) (by dsimp only [Rows.layoutApartRow]; repeat (first | exact List.mem_cons_self | apply List.mem_cons_of_mem))
  clear hA0 hval0
  simp only [List.append_nil] at hW'
  refine (layoutApart_any u0 n0 k0 u1 n1 k1 W hT ha0 ⟨kb0, kc0⟩ ha1 ⟨kb1, kc1⟩).mono fun e W' ⟨he, hw⟩ => ?_
  subst he
  exact ⟨_, rfl, _, _, _, [], _, [], hW', trodAll_mk1 (shut_bool Tryz.underlying4 _), trodAll_mk2 (Below.trod laid_out (by kernel_rfl) (of_decide_eq_true (by kernel_rfl)) h0 hw hl0) (Below.trod laid_out (by kernel_rfl) (of_decide_eq_true (by kernel_rfl)) h1 hw hl1), rfl, hw.frame _, fun h => by cases h⟩
theorem layoutApart_said : Rows.LayoutApartSaid :=
  OpenClaim.holds_of_wide 6 Tryz.f6 rfl rfl rfl rfl rfl rfl rfl ⟨rfl, rfl, rfl, rfl, rfl⟩ rfl rfl rfl rfl rfl (by kernel_rfl) Tryz.func6 (by kernel_rfl)
    (of_decide_eq_true (by kernel_rfl)) (by unfold Func.isWrapper; first | (rw [if_pos (by decide +kernel)]; kernel_rfl) | (rw [if_neg (by decide +kernel)]; exact ⟨rfl, rfl⟩))
    (fun os started H enc _ => layoutApart_lifted os started H enc)
theorem layoutApart_plain (f : FuncId) (fn : Func) (hf : Tryz.pinned.checked.prog.funcNamed "caliper/caliperlaw12.LayoutApart" = some f) (hfn : Tryz.pinned.checked.prog.funcs[f]? = some fn) :
    true = Tryz.pinned.checked.prog.looks [] ∧ ∀ (j : Nat) t, fn.params[j]? = some t → Tryz.pinned.checked.prog.wantsStandIn t = false := by
  obtain rfl : f = 6 := Option.some.inj ((show Tryz.prog.funcNamed "caliper/caliperlaw12.LayoutApart" = some 6 by kernel_rfl).symm.trans hf) |>.symm
  obtain rfl : fn = Tryz.f6 := (Option.some.inj (Tryz.func6.symm.trans hfn)).symm
  refine ⟨by kernel_rfl, fun j t ht => ?_⟩
  rw [Tryz.params6] at ht
  have hm : t ∈ [25, 25] := by simpa using Array.mem_of_getElem? ht
  have hall : ([25, 25].all fun u => !Tryz.prog.wantsStandIn u) = true := by kernel_rfl
  exact (show Tryz.prog.wantsStandIn t = false by simpa using List.all_eq_true.1 hall t hm)
theorem layoutApart_card : Rows.LayoutApartCardSaid :=
  Claim7.holds_tied_plain_at .later [] _ _ _ _ layoutApart_said (fun _ h => by cases h) (by kernel_rfl) (fun _ h => by cases h) layoutApart_row_tie rfl ⟨rfl, rfl⟩ (by kernel_rfl) rfl layoutApart_plain (by kernel_rfl)
end Go.Proofs.YtjhdkdfiadlmcaaGreatDoor
