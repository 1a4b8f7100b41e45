/- Parse: what number a text tells, walked. Conditions: none. -/
/- Parse: what is thrown is caught. Conditions: none. -/
/- Parse, walked. Conditions: the variables that values read. -/
/- Parse, walked: behind the scan. Conditions: the variables that values read. -/
/- Parse, walked: words and numbers. Conditions: the variables that values read. -/
/- Parse, by what it tells. Conditions: the variables that values read. -/
/- What the statements of Parse show in any case. Conditions: the variables that values read. -/
/- The theorems of the whole: what must be in any case. Conditions: the variables that values and words read. -/
import Derived.Test.YtehpneojiinmdaaGreatDoorTu20
import Derived.Defers
import Derived.Recover
import Derived.Tactics2
import Derived.Test.YtehpneojiinmdaaGreatDoorTu21
import Derived.Test.YtehpneojiinmdaaGreatDoorTu14
import Derived.Test.YtehpneojiinmdaaGreatDoorTu22
namespace Go.Proofs.YtehpneojiinmdaaGreatDoor
open Go.RowKit Go.Cal
theorem xdec_s {w : World} {d : Value} {m N : Nat} (neg : Bool) (k : Int) (h : IsN w d m N) (hm : m ≤ 1048576) (hN : N < 18446744073709551616 ^ 128) (hk : -5000 ≤ k ∧ k ≤ 5000) :
    Calls Tryz.prog 141 #[.bool neg, d, .int .i64 k] w fun e w' => ∃ A5 n5 c5, e = .returned (.tuple #[.agg #[.bool neg, .slice A5 n5 c5, .int .i64 k, .int .i64 k], .bool true]) ∧ IsT w' (.slice A5 n5 c5) 128 N ∧ Below w.heap.size w w' := by
  refine (xdec_yes neg k h hm hN hk).mono ?_
  rintro e w' ⟨v, rfl, hv, hb⟩
  obtain ⟨A, c, zs, rfl, -⟩ := id hv
  exact ⟨A, _, c, rfl, hv, hb⟩
set_option maxRecDepth 100000 in
set_option maxHeartbeats 1000000 in
theorem number_near (kd : Int) (neg cut : Bool) {A : Option Addr} {n c m D : Nat} (k : Int) {w : World} (h : IsN w (.slice A n c) m D) (hm : m ≤ 1048576) (hN : D < 18446744073709551616 ^ 128) (hk : -5000 ≤ k ∧ k ≤ 5000) :
    Calls Tryz.prog 91 #[.agg #[.int .i64 kd, .bool neg, .slice A n c, .int .i64 k, .int .i64 0, .bool cut]] w fun e w' => ∃ A5 n5 c5, e = .returned (.agg #[.bool neg, .slice A5 n5 c5, .int .i64 k, .int .i64 k]) ∧ IsT w' (.slice A5 n5 c5) 128 D ∧ Below w.heap.size w w' := by
  have hb0 : Below w.heap.size w ((w.alloc (.cells #[.int .i64 kd, .bool neg, .slice A n c, .int .i64 k, .int .i64 0, .bool cut] 145)).alloc (.cells #[.bool false, .slice none 0 0, .int .i64 0, .int .i64 0] 52)) := ((Below.refl _ _).alloc (Nat.le_refl _) _).alloc (by simp) _
  have hd := Lib.hid (xdec_s neg k (h.below hb0) hm hN hk)
  have hp0 : pBlk (w.heap.size + 1) #[.bool false, .slice none 0 0, .int .i64 0, .int .i64 0] 52 ((w.alloc (.cells #[.int .i64 kd, .bool neg, .slice A n c, .int .i64 k, .int .i64 0, .bool cut] 145)).alloc (.cells #[.bool false, .slice none 0 0, .int .i64 0, .int .i64 0] 52)) := by
    have := pBlk_made (w.alloc (.cells #[.int .i64 kd, .bool neg, .slice A n c, .int .i64 k, .int .i64 0, .bool cut] 145)) #[.bool false, .slice none 0 0, .int .i64 0, .int .i64 0] 52
    rw [show (w.alloc (.cells #[.int .i64 kd, .bool neg, .slice A n c, .int .i64 k, .int .i64 0, .bool cut] 145)).heap.size = w.heap.size + 1 by simp] at this
    exact this
  replace hN := Lib.hid hN
  clear h
  go_enter Tryz.func91, Tryz.ntmps91
  go_wp2_with fail
  refine hd.out.mono ?_
  rintro e w1 ⟨A5, n5, c5, rfl, hv, hb⟩
  have hz := hb.size
  simp at hz
  have hB : Below w.heap.size w w1 := hb0.trans (hb.mono (by simp; omega))
  have hp1 := pBlk_st _ _ _ _ _ (pBlk_st _ _ _ _ _ hp0 hb) ((Below.refl _ _).alloc (Nat.le_refl _) (.cells #[.bool false, .slice none 0 0, .int .i64 0, .int .i64 0] 52))
  have hv0 := hv.below ((Below.refl _ _).alloc (Nat.le_refl _) (.cells #[.bool false, .slice none 0 0, .int .i64 0, .int .i64 0] 52))
  go_wp2_with (first
    | ((with_reducible show wpList _ _ _ (Oper.mk _ (Op.store 52 _ _) _ _ _ _ :: _) _ _); refine wpList_store_keep _ rfl 52 _ _ rfl w1.heap.size #[.bool neg, .slice A5 n5 c5, .int .i64 k, .int .i64 k] #[.bool false, .slice none 0 0, .int .i64 0, .int .i64 0] 52 rfl rfl (pBlk_made w1 #[.bool false, .slice none 0 0, .int .i64 0, .int .i64 0] 52) exact_size rfl (by simp [Value.oneCell']) noU ?_; intro w2 hp2 hb2 hk2; obtain ⟨r0, r1, r2, r3⟩ := cells4 hp2; have hq := pBlk_keep hp1 hb2 (by omega); have hv2 := hk2 _ _ _ hv0)
    | ((with_reducible show wpList _ _ _ (Oper.mk _ (Op.store 52 _ _) _ _ _ _ :: _) _ _); refine wpList_store_keep _ rfl 52 _ _ rfl (w.heap.size + 1) #[.bool neg, .slice A5 n5 c5, .int .i64 k, .int .i64 k] #[.bool false, .slice none 0 0, .int .i64 0, .int .i64 0] 52 rfl rfl hq exact_size rfl (by simp [Value.oneCell']) noU ?_; intro w3 hp3 hb3 hk3; obtain ⟨s0, s1, s2, s3⟩ := cells4 hp3; have hv3 := hk3 _ _ _ hv2))
  have hB3 : Below w.heap.size w w3 := ((hB.alloc hB.size _).trans (hb2.mono hB.size)).trans (hb3.mono (Nat.le_succ _))
  exact bodyPost_ret (v := .agg #[.bool neg, .slice A5 n5 c5, .int .i64 k, .int .i64 k]) (by simp [results, Tryz.results91, go_sem, s0, s1, s2, s3]) rfl ⟨A5, n5, c5, rfl, hv3, hB3⟩
theorem pBlk.othX {g g' : Nat} {cs : Array Value} {t : TypeId} {w : World} (h : pBlk g cs t w) (hne : g ≠ g') (i : Nat) (u : Value) : pBlk g cs t (w.setCell ⟨g', i, none⟩ u) := by
  unfold pBlk at *
  simp only [World.setCell, Array.getElem?_modify]
  rw [if_neg (fun e => hne e.symm)]
  exact h
set_option maxRecDepth 100000 in
set_option maxHeartbeats 2000000 in
theorem number_far (kd : Int) (neg cut : Bool) (A : Option Addr) (n c : Nat) (k big : Int) (hbg : big = 1 ∨ big = -1) (w : World) :
    Calls Tryz.prog 91 #[.agg #[.int .i64 kd, .bool neg, .slice A n c, .int .i64 k, .int .i64 big, .bool cut]] w fun e w' => ∃ A5 n5 c5, e = .returned (.agg #[.bool neg, .slice A5 n5 c5, .int .i64 (big * 1000), .int .i64 (big * 1000)]) ∧ IsT w' (.slice A5 n5 c5) 128 1 ∧ Below w.heap.size w w' := by
  have hb0 : Below w.heap.size w ((w.alloc (.cells #[.int .i64 kd, .bool neg, .slice A n c, .int .i64 k, .int .i64 big, .bool cut] 145)).alloc (.cells #[.bool false, .slice none 0 0, .int .i64 0, .int .i64 0] 52)) := ((Below.refl _ _).alloc (Nat.le_refl _) _).alloc (by simp) _
  have hp0 : pBlk (w.heap.size + 1) #[.bool false, .slice none 0 0, .int .i64 0, .int .i64 0] 52 ((w.alloc (.cells #[.int .i64 kd, .bool neg, .slice A n c, .int .i64 k, .int .i64 big, .bool cut] 145)).alloc (.cells #[.bool false, .slice none 0 0, .int .i64 0, .int .i64 0] 52)).drew := by
    have := pBlk_st _ _ _ _ _ (pBlk_made (w.alloc (.cells #[.int .i64 kd, .bool neg, .slice A n c, .int .i64 k, .int .i64 big, .bool cut] 145)) #[.bool false, .slice none 0 0, .int .i64 0, .int .i64 0] 52) (Below.refl _ _).drew
    rw [show (w.alloc (.cells #[.int .i64 kd, .bool neg, .slice A n c, .int .i64 k, .int .i64 big, .bool cut] 145)).heap.size = w.heap.size + 1 by simp] at this
    exact this
  have hf0 : pBlk w.heap.size #[.int .i64 kd, .bool neg, .slice A n c, .int .i64 k, .int .i64 big, .bool cut] 145 ((w.alloc (.cells #[.int .i64 kd, .bool neg, .slice A n c, .int .i64 k, .int .i64 big, .bool cut] 145)).alloc (.cells #[.bool false, .slice none 0 0, .int .i64 0, .int .i64 0] 52)).drew := pBlk_st _ _ _ _ _ (pBlk_st _ _ _ _ _ (pBlk_made w #[.int .i64 kd, .bool neg, .slice A n c, .int .i64 k, .int .i64 big, .bool cut] 145) ((Below.refl _ _).alloc (Nat.le_refl _) (.cells #[.bool false, .slice none 0 0, .int .i64 0, .int .i64 0] 52))) (Below.refl _ _).drew
  have hof := Lib.hid fun w' => nof_x w' 1 (by decide)
  have hbn : (big != 0) = true := by rcases hbg with rfl | rfl <;> rfl
  have hl1 : -1 ≤ big := by omega
  have hl2 : big ≤ 1 := by omega
  have hwr := Lib.hid (show IntKind.i64.wrap (big * 1000) = big * 1000 by rw [IntKind.wrap_i64]; omega)
  go_enter Tryz.func91, Tryz.ntmps91
  go_wp2_with fail
  go_region_with (go_at_call 17; refine (hof.out _).mono ?_; rintro e w2 ⟨A2, n2, c2, rfl, hv2, hb2⟩; obtain ⟨hc2, hf2⟩ := bcell hb2)
  all_goals
    rw [hwr.out]
    have hno : ∀ (a b c d e f : Value), (∀ n, a ≠ .int .u64 n) → (∀ n, b ≠ .int .u64 n) → (∀ n, c ≠ .int .u64 n) → (∀ n, d ≠ .int .u64 n) → (∀ n, e ≠ .int .u64 n) → (∀ n, f ≠ .int .u64 n) → ∀ x ∈ (#[a, b, c, d, e, f] : Array Value).toList, ∀ n, x ≠ .int .u64 n := by
      intro a b c d e f ha hb hc hd he hf x hx
      simp at hx
      rcases hx with rfl | rfl | rfl | rfl | rfl | rfl <;> assumption
    have hf2' := pBlk_st _ _ _ _ _ hf0 hb2
    have hp2 := pBlk_st _ _ _ _ _ hp0 hb2
    have hvf := IsT.apartX (i := 3) (u := .int .i64 (big * 1000)) (IsT.apartX (i := 2) (u := .slice A2 n2 c2) hv2 hf2' (hno _ _ _ _ _ _ (by simp) (by simp) (by simp) (by simp) (by simp) (by simp))) (hf2'.setX 2 (.slice A2 n2 c2)) (hno _ _ _ _ _ _ (by simp) (by simp) (by simp) (by simp) (by simp) (by simp))
    have hff := (hf2'.setX 2 (.slice A2 n2 c2)).setX 3 (.int .i64 (big * 1000))
    have hpf := (hp2.othX (g' := w.heap.size) (by omega) 2 (.slice A2 n2 c2)).othX (g' := w.heap.size) (by omega) 3 (.int .i64 (big * 1000))
    have hBw : Below w.heap.size w w2 := hb0.trans ((Below.refl _ _).drew.trans (hb2.mono (by simp; omega)))
    have hBf := (hBw.setCell (p := ⟨w.heap.size, 2, none⟩) (Nat.le_refl _) (.slice A2 n2 c2)).setCell (p := ⟨w.heap.size, 3, none⟩) (Nat.le_refl _) (.int .i64 (big * 1000))
    generalize ((w2.setCell ⟨w.heap.size, 2, none⟩ (.slice A2 n2 c2)).setCell ⟨w.heap.size, 3, none⟩ (.int .i64 (big * 1000))) = w3 at hvf hff hpf hBf ⊢
    have y1 := pBlk.cell hff 1 (.bool neg) rfl
    have y2 := pBlk.cell hff 2 (.slice A2 n2 c2) rfl
    have y3 := pBlk.cell hff 3 (.int .i64 (big * 1000)) rfl
    have hd := Lib.hid (xdec_s neg (big * 1000) (IsT.isN hvf) (by decide) (by decide) ⟨by omega, by omega⟩)
    clear hno hf2' hp2 hBw hc2 hf2 hf0 hp0 hv2 hb2 hff
    go_wp2_with fail
    refine hd.out.mono ?_
    rintro e w4 ⟨A5, n5, c5, rfl, hv, hb⟩
    have hz := hb.size
    have hzl : w.heap.size + 1 < w3.heap.size := by
      have := hpf
      unfold pBlk at this
      exact (Array.getElem?_eq_some_iff.1 this).1
    have hB : Below w.heap.size w w4 := hBf.trans (hb.mono (by omega))
    have hp1 := pBlk_st _ _ _ _ _ (pBlk_st _ _ _ _ _ hpf hb) ((Below.refl _ _).alloc (Nat.le_refl _) (.cells #[.bool false, .slice none 0 0, .int .i64 0, .int .i64 0] 52))
    have hv0 := hv.below ((Below.refl _ _).alloc (Nat.le_refl _) (.cells #[.bool false, .slice none 0 0, .int .i64 0, .int .i64 0] 52))
    clear y1 y2 y3 hd
    go_wp2_with (first
      | ((with_reducible show wpList _ _ _ (Oper.mk _ (Op.store 52 _ _) _ _ _ _ :: _) _ _); refine wpList_store_keep _ rfl 52 _ _ rfl w4.heap.size #[.bool neg, .slice A5 n5 c5, .int .i64 (big * 1000), .int .i64 (big * 1000)] #[.bool false, .slice none 0 0, .int .i64 0, .int .i64 0] 52 rfl rfl (pBlk_made w4 #[.bool false, .slice none 0 0, .int .i64 0, .int .i64 0] 52) exact_size rfl (by simp [Value.oneCell']) noU ?_; intro w5 hp2 hb2 hk2; obtain ⟨r0, r1, r2, r3⟩ := cells4 hp2; have hq := pBlk_keep hp1 hb2 (by omega); have hv2 := hk2 _ _ _ hv0)
      | ((with_reducible show wpList _ _ _ (Oper.mk _ (Op.store 52 _ _) _ _ _ _ :: _) _ _); refine wpList_store_keep _ rfl 52 _ _ rfl (w.heap.size + 1) #[.bool neg, .slice A5 n5 c5, .int .i64 (big * 1000), .int .i64 (big * 1000)] #[.bool false, .slice none 0 0, .int .i64 0, .int .i64 0] 52 rfl rfl hq exact_size rfl (by simp [Value.oneCell']) noU ?_; intro w6 hp3 hb3 hk3; obtain ⟨s0, s1, s2, s3⟩ := cells4 hp3; have hv3 := hk3 _ _ _ hv2))
    have hB3 : Below w.heap.size w w6 := ((hB.alloc hB.size _).trans (hb2.mono hB.size)).trans (hb3.mono (Nat.le_succ _))
    exact bodyPost_ret (v := .agg #[.bool neg, .slice A5 n5 c5, .int .i64 (big * 1000), .int .i64 (big * 1000)]) (by simp [results, Tryz.results91, go_sem, s0, s1, s2, s3]) rfl ⟨A5, n5, c5, rfl, hv3, hB3⟩
end Go.Proofs.YtehpneojiinmdaaGreatDoor
namespace Go.Proofs.YtehpneojiinmdaaGreatDoor
open Go.RowKit Go.Cal
theorem qassert (a b : Int) (xt : TypeId) (w : World) : (Instr.typeAssert (.iface 141 (.agg #[.int .i64 a, .int .i64 b])) xt 141 true).run Tryz.prog w = .ok (.tuple #[.agg #[.int .i64 a, .int .i64 b], .bool true]) w := by
  unfold Instr.typeAssert
  simp [run_underlying Tryz.underlying141, Sem.run_bind, Sem.run_pure]
theorem cell_ltX {w : World} {g : Nat} {cs : Array Value} {t : TypeId} (h : pBlk g cs t w) : g < w.heap.size := by
  unfold pBlk at h
  exact (Array.getElem?_eq_some_iff.1 h).1
set_option maxRecDepth 100000 in
theorem qcatch_idle (g : Nat) (w : World) :
    CallsD Tryz.prog 87 #[.pointer (some ⟨g, 0, none⟩), .pointer (some ⟨g + 1, 0, none⟩), .pointer (some ⟨g + 2, 0, none⟩)] .returning w fun e u' w' => e = .returned (.tuple #[]) ∧ u' = .returning ∧ w' = w := by
  refine callsD_of_wpS Tryz.func87 rfl fun c₀ cs hu => ?_
  apply wpS_seq
  apply wpS_region
  simp [wpOpsS, go_sem, recoverD, hu, Tryz.ntmps87, Exit.thenS]
  apply wpS_seq
  apply wpS_region
  simp [wpOpsS, go_sem, Exit.thenS]
  refine wpS_cond (t := false) (by simp [Act.eval, Array.replicate]) ?_
  simp only [Bool.false_eq_true, if_false]
  refine wpS_of_wp (wp_skip ?_)
  cases c₀
  simp_all [bodyPostS, results, Tryz.results87]
set_option maxRecDepth 100000 in
set_option maxHeartbeats 1000000 in
theorem qcatch_thrown (g : Nat) (a b : Int) (older : List PanicEntry) (w : World) {x y z : Value} (p0 : pBlk g #[x] 22 w) (p1 : pBlk (g + 1) #[y] 3 w) (p2 : pBlk (g + 2) #[z] 26 w) :
    CallsD Tryz.prog 87 #[.pointer (some ⟨g, 0, none⟩), .pointer (some ⟨g + 1, 0, none⟩), .pointer (some ⟨g + 2, 0, none⟩)] (.panicking ({ v := .iface 141 (.agg #[.int .i64 a, .int .i64 b]), recovered := false } :: older)) w fun e u' w' =>
      e = .returned (.tuple #[]) ∧ u' = .panicking ({ v := .iface 141 (.agg #[.int .i64 a, .int .i64 b]), recovered := true } :: older) ∧ pBlk g #[.int .u64 0] 22 w' ∧ pBlk (g + 1) #[.int .i64 a] 3 w' ∧ pBlk (g + 2) #[.int .i64 b] 26 w' ∧ Below g w w' := by
  have hta := qassert a b
  have c0 := p0.cell 0 _ rfl
  have c1 := p1.cell 0 _ rfl
  have c2 := p2.cell 0 _ rfl
  have f0 := p0.free 0
  have f1 := p1.free 0
  have f2 := p2.free 0
  have hg := cell_ltX p0
  have he := cell_ltX p1
  have he2 := cell_ltX p2
  refine callsD_of_wpS Tryz.func87 rfl fun c₀ cs hu => ?_
  apply wpS_seq
  apply wpS_region
  simp [wpOpsS, go_sem, recoverD, hu, Tryz.ntmps87, Exit.thenS]
  apply wpS_seq
  apply wpS_region
  simp [wpOpsS, go_sem, Exit.thenS]
  refine wpS_cond (t := true) (by simp [Act.eval, Array.replicate]) ?_
  simp only [if_true]
  refine wpS_of_wp ?_
  simp [Array.replicate]
  go_wp2
  go_region
  go_wp2
  simp [bodyPostS, results, Tryz.results87]
  have hB := (((Below.refl g w).setCell (p := ⟨g, 0, none⟩) (Nat.le_refl _) (.int .u64 0)).setCell (p := ⟨g + 1, 0, none⟩) (Nat.le_succ _) (.int .i64 a)).setCell (p := ⟨g + 2, 0, none⟩) (Nat.le_add_right _ _) (.int .i64 b)
  have k0 := ((p0.setX 0 (.int .u64 0)).othX (g' := g + 1) (by omega) 0 (.int .i64 a)).othX (g' := g + 2) (by omega) 0 (.int .i64 b)
  have k1 := ((p1.othX (g' := g) (by omega) 0 (.int .u64 0)).setX 0 (.int .i64 a)).othX (g' := g + 2) (by omega) 0 (.int .i64 b)
  have k2 := ((p2.othX (g' := g) (by omega) 0 (.int .u64 0)).othX (g' := g + 1) (by omega) 0 (.int .i64 a)).setX 0 (.int .i64 b)
  have hD := fun W : World => ((Below.refl W.heap.size W).alloc (Nat.le_refl _) (.cells #[.int .i64 a, .int .i64 b] 141)).drew
  refine ⟨pBlk_st _ _ _ _ _ k0 (hD _), pBlk_st _ _ _ _ _ k1 (hD _), pBlk_st _ _ _ _ _ k2 (hD _), hB.trans ((hD _).mono ?_)⟩
  simp [World.setCell]
  omega
end Go.Proofs.YtehpneojiinmdaaGreatDoor
namespace Go.Proofs.YtehpneojiinmdaaGreatDoor
open Go.RowKit Go.Cal
theorem parse_start (w : World) : LiveP w (((w.alloc (.cells #[.int .u64 0] 22)).alloc (.cells #[.int .i64 0] 3)).alloc (.cells #[.int .i64 0] 26)) [pBlk (w.heap.size + 1 + 1) #[.int .i64 0] 26, pBlk (w.heap.size + 1) #[.int .i64 0] 3, pBlk w.heap.size #[.int .u64 0] 22] := by
  have h1 := ((LiveP.start w).go ((Below.refl _ _).alloc (Nat.le_refl _) (.cells #[.int .u64 0] 22))).put (pBlk_st _ _ _) (pBlk_made w #[.int .u64 0] 22)
  have a2 := pBlk_made (w.alloc (.cells #[.int .u64 0] 22)) #[.int .i64 0] 3
  rw [show (w.alloc (.cells #[.int .u64 0] 22)).heap.size = w.heap.size + 1 by simp] at a2
  have h2 := (h1.go ((Below.refl _ _).alloc (Nat.le_refl _) (.cells #[.int .i64 0] 3))).put (pBlk_st _ _ _) a2
  have a3 := pBlk_made ((w.alloc (.cells #[.int .u64 0] 22)).alloc (.cells #[.int .i64 0] 3)) #[.int .i64 0] 26
  rw [show ((w.alloc (.cells #[.int .u64 0] 22)).alloc (.cells #[.int .i64 0] 3)).heap.size = w.heap.size + 1 + 1 by simp] at a3
  exact (h2.go ((Below.refl _ _).alloc (Nat.le_refl _) (.cells #[.int .i64 0] 26))).put (pBlk_st _ _ _) a3
section
variable {w W : World} {p a e : Int}
theorem set_p (h : LiveP w W [pBlk (w.heap.size + 1 + 1) #[.int .i64 e] 26, pBlk (w.heap.size + 1) #[.int .i64 a] 3, pBlk w.heap.size #[.int .u64 p] 22]) (u : Int) : LiveP w (W.setCell ⟨w.heap.size, 0, none⟩ (.int .u64 u)) [pBlk (w.heap.size + 1 + 1) #[.int .i64 e] 26, pBlk (w.heap.size + 1) #[.int .i64 a] 3, pBlk w.heap.size #[.int .u64 u] 22] := by
  have q0 := h.get (P := pBlk w.heap.size #[.int .u64 p] 22) (by repeat (first | exact List.mem_cons_self | apply List.mem_cons_of_mem))
  have q1 := h.get (P := pBlk (w.heap.size + 1) #[.int .i64 a] 3) (by repeat (first | exact List.mem_cons_self | apply List.mem_cons_of_mem))
  have q2 := h.get (P := pBlk (w.heap.size + 1 + 1) #[.int .i64 e] 26) (by repeat (first | exact List.mem_cons_self | apply List.mem_cons_of_mem))
  exact (((⟨h.below.setCell (p := ⟨w.heap.size, 0, none⟩) (Nat.le_refl _) _, fun P hP => by simp at hP⟩ : LiveP w _ []).put (pBlk_st _ _ _) (q0.setX 0 (.int .u64 u))).put (pBlk_st _ _ _) (q1.othX (g' := w.heap.size) (by omega) 0 (.int .u64 u))).put (pBlk_st _ _ _) (q2.othX (g' := w.heap.size) (by omega) 0 (.int .u64 u))
theorem set_a (h : LiveP w W [pBlk (w.heap.size + 1 + 1) #[.int .i64 e] 26, pBlk (w.heap.size + 1) #[.int .i64 a] 3, pBlk w.heap.size #[.int .u64 p] 22]) (u : Int) : LiveP w (W.setCell ⟨w.heap.size + 1, 0, none⟩ (.int .i64 u)) [pBlk (w.heap.size + 1 + 1) #[.int .i64 e] 26, pBlk (w.heap.size + 1) #[.int .i64 u] 3, pBlk w.heap.size #[.int .u64 p] 22] := by
  have q0 := h.get (P := pBlk w.heap.size #[.int .u64 p] 22) (by repeat (first | exact List.mem_cons_self | apply List.mem_cons_of_mem))
  have q1 := h.get (P := pBlk (w.heap.size + 1) #[.int .i64 a] 3) (by repeat (first | exact List.mem_cons_self | apply List.mem_cons_of_mem))
  have q2 := h.get (P := pBlk (w.heap.size + 1 + 1) #[.int .i64 e] 26) (by repeat (first | exact List.mem_cons_self | apply List.mem_cons_of_mem))
  exact (((⟨h.below.setCell (p := ⟨w.heap.size + 1, 0, none⟩) (Nat.le_succ _) _, fun P hP => by simp at hP⟩ : LiveP w _ []).put (pBlk_st _ _ _) (q0.othX (g' := w.heap.size + 1) (by omega) 0 (.int .i64 u))).put (pBlk_st _ _ _) (q1.setX 0 (.int .i64 u))).put (pBlk_st _ _ _) (q2.othX (g' := w.heap.size + 1) (by omega) 0 (.int .i64 u))
theorem set_e (h : LiveP w W [pBlk (w.heap.size + 1 + 1) #[.int .i64 e] 26, pBlk (w.heap.size + 1) #[.int .i64 a] 3, pBlk w.heap.size #[.int .u64 p] 22]) (u : Int) : LiveP w (W.setCell ⟨w.heap.size + 1 + 1, 0, none⟩ (.int .i64 u)) [pBlk (w.heap.size + 1 + 1) #[.int .i64 u] 26, pBlk (w.heap.size + 1) #[.int .i64 a] 3, pBlk w.heap.size #[.int .u64 p] 22] := by
  have q0 := h.get (P := pBlk w.heap.size #[.int .u64 p] 22) (by repeat (first | exact List.mem_cons_self | apply List.mem_cons_of_mem))
  have q1 := h.get (P := pBlk (w.heap.size + 1) #[.int .i64 a] 3) (by repeat (first | exact List.mem_cons_self | apply List.mem_cons_of_mem))
  have q2 := h.get (P := pBlk (w.heap.size + 1 + 1) #[.int .i64 e] 26) (by repeat (first | exact List.mem_cons_self | apply List.mem_cons_of_mem))
  exact (((⟨h.below.setCell (p := ⟨w.heap.size + 1 + 1, 0, none⟩) (Nat.le_trans (Nat.le_succ _) (Nat.le_succ _)) _, fun P hP => by simp at hP⟩ : LiveP w _ []).put (pBlk_st _ _ _) (q0.othX (g' := w.heap.size + 1 + 1) (by omega) 0 (.int .i64 u))).put (pBlk_st _ _ _) (q1.othX (g' := w.heap.size + 1 + 1) (by omega) 0 (.int .i64 u))).put (pBlk_st _ _ _) (q2.setX 0 (.int .i64 u))
theorem get_c (h : LiveP w W [pBlk (w.heap.size + 1 + 1) #[.int .i64 e] 26, pBlk (w.heap.size + 1) #[.int .i64 a] 3, pBlk w.heap.size #[.int .u64 p] 22]) : W.cell? ⟨w.heap.size, 0, none⟩ = some (.int .u64 p) ∧ W.cell? ⟨w.heap.size + 1, 0, none⟩ = some (.int .i64 a) ∧ W.cell? ⟨w.heap.size + 1 + 1, 0, none⟩ = some (.int .i64 e) ∧
    W.frozen? ⟨w.heap.size, 0, none⟩ = false ∧ W.frozen? ⟨w.heap.size + 1, 0, none⟩ = false ∧ W.frozen? ⟨w.heap.size + 1 + 1, 0, none⟩ = false ∧ w.heap.size + 1 + 1 < W.heap.size := by
  have q0 := h.get (P := pBlk w.heap.size #[.int .u64 p] 22) (by repeat (first | exact List.mem_cons_self | apply List.mem_cons_of_mem))
  have q1 := h.get (P := pBlk (w.heap.size + 1) #[.int .i64 a] 3) (by repeat (first | exact List.mem_cons_self | apply List.mem_cons_of_mem))
  have q2 := h.get (P := pBlk (w.heap.size + 1 + 1) #[.int .i64 e] 26) (by repeat (first | exact List.mem_cons_self | apply List.mem_cons_of_mem))
  exact ⟨q0.cell 0 _ rfl, q1.cell 0 _ rfl, q2.cell 0 _ rfl, q0.free 0, q1.free 0, q2.free 0, cell_ltX q2⟩
end
set_option maxRecDepth 100000 in
set_option maxHeartbeats 2000000 in
theorem parse_form (id mode : Int) (s : ByteArray) (hid : id < 1 ∨ 15 ≤ id) (w : World) :
    Calls Tryz.prog 43 #[.int .i64 id, .int .i64 mode, .string s] w fun e w' => e = .returned (.tuple #[.int .u64 0, .int .i64 0, .int .i64 3]) ∧ Below w.heap.size w w' := by
  have hmf : ∀ (fn : Fn) (first cap : Array Value) (w : World), (Instr.makeFunc fn first cap).run Tryz.prog w = .ok (.func fn first cap) w := fun _ _ _ _ => rfl
  have hfn := Lib.hid (fun w => fo_none id w hid)
  have hL := parse_start w
  clear hid
  go_enter_defers Tryz.func43, Tryz.ntmps43
  go_wp2_with fail
  refine (hfn.out _).mono ?_
  rintro e u1 ⟨rfl, hb1⟩
  replace hL := (hL.go hb1).go ((Below.refl _ _).alloc (Nat.le_refl _) (.cells #[.int .i64 0, .int .i64 0, .int .i64 0, .int .i64 0, .int .u64 0, .int .u64 0, .int .u64 0] 25))
  obtain ⟨c0, c1, c2, f0, f1, f2, hlt⟩ := get_c hL
  go_wp2_with fail
  refine (qmust_no 0 3 (by decide) _).mono ?_
  rintro e u2 ⟨rfl, rfl⟩
  replace hL := set_e hL 3
  clear c0 c1 c2 f0 f1 f2
  have p0 := hL.get (P := pBlk w.heap.size #[.int .u64 0] 22) (by repeat (first | exact List.mem_cons_self | apply List.mem_cons_of_mem))
  have p1 := hL.get (P := pBlk (w.heap.size + 1) #[.int .i64 0] 3) (by repeat (first | exact List.mem_cons_self | apply List.mem_cons_of_mem))
  have p2 := hL.get (P := pBlk (w.heap.size + 1 + 1) #[.int .i64 3] 26) (by repeat (first | exact List.mem_cons_self | apply List.mem_cons_of_mem))
  have hbl := hL.below
  clear hL
  go_wp2
  refine leaves_cons (f := 87) (args := #[.pointer (some ⟨w.heap.size, 0, none⟩), .pointer (some ⟨w.heap.size + 1, 0, none⟩), .pointer (some ⟨w.heap.size + 1 + 1, 0, none⟩)]) (by simp) (by simp [go_sem]) ?_
  refine (qcatch_thrown w.heap.size 0 3 [] _ p0 p1 p2).mono ?_
  rintro e1 u8 w8 ⟨rfl, rfl, pd0, pd1, pd2, hb8⟩
  have y0 := pd0.cell 0 _ rfl
  have y1 := pd1.cell 0 _ rfl
  have y2 := pd2.cell 0 _ rfl
  have hbf := hbl.trans hb8
  clear p0 p1 p2 pd0 pd1 pd2
  simp [Leaves, settle, results, Tryz.results43, go_sem, y0, y1, y2]
  exact hbf
set_option maxRecDepth 100000 in
set_option maxHeartbeats 2000000 in
theorem parse_mode (id mode : Int) (s : ByteArray) (h1 : 1 ≤ id) (h2 : id < 15) (m1 : (mode != 1) = true) (m2 : (mode != 2) = true) (w : World) (hW : VaW w) :
    Calls Tryz.prog 43 #[.int .i64 id, .int .i64 mode, .string s] w fun e w' => e = .returned (.tuple #[.int .u64 0, .int .i64 0, .int .i64 1]) ∧ Below w.heap.size w w' := by
  have hmf : ∀ (fn : Fn) (first cap : Array Value) (w : World), (Instr.makeFunc fn first cap).run Tryz.prog w = .ok (.func fn first cap) w := fun _ _ _ _ => rfl
  have hfo := Lib.hid (fun (W : World) (hW : VaW W) => fo_of id W hW.frm h1 h2)
  have hL := parse_start w
  go_enter_defers Tryz.func43, Tryz.ntmps43
  go_wp2_with fail
  refine (hfo.out _ (hW.below hL.below)).mono ?_
  rintro e u1 ⟨rfl, hb1⟩
  have hF := pBlk_made u1 #[.int .i64 (fK id), .int .i64 (fW id), .int .i64 (fM id), .int .i64 (fB id), .int .u64 (fT id), .int .u64 (fI id), .int .u64 (fN id)] 25
  replace hL := (hL.go hb1).go ((Below.refl _ _).alloc (Nat.le_refl _) (.cells #[.int .i64 (fK id), .int .i64 (fW id), .int .i64 (fM id), .int .i64 (fB id), .int .u64 (fT id), .int .u64 (fI id), .int .u64 (fN id)] 25))
  obtain ⟨c0, c1, c2, f0, f1, f2, hlt⟩ := get_c hL
  go_wp2_with fail
  refine (qmust_yes 0 _).mono ?_
  rintro e u2 ⟨rfl, rfl⟩
  have hgF : w.heap.size + 1 + 1 < u1.heap.size := by
    have := hb1.size
    simp at this
    omega
  replace hL := set_e hL 0
  replace hF := hF.othX (g' := w.heap.size + 1 + 1) (by omega) 0 (.int .i64 0)
  clear c0 c1 c2 f0 f1 f2 hlt hb1
  obtain ⟨W1, hW1⟩ : ∃ W1, ((u1.alloc (.cells #[.int .i64 (fK id), .int .i64 (fW id), .int .i64 (fM id), .int .i64 (fB id), .int .u64 (fT id), .int .u64 (fI id), .int .u64 (fN id)] 25)).setCell ⟨w.heap.size + 1 + 1, 0, none⟩ (.int .i64 0)) = W1 := ⟨_, rfl⟩
  rw [hW1] at hL hF ⊢
  clear hW1
  obtain ⟨gF, hgE⟩ : ∃ g, u1.heap.size = g := ⟨_, rfl⟩
  rw [hgE] at hF hgF ⊢
  clear hgE
  obtain ⟨c0, c1, c2, f0, f1, f2, hlt⟩ := get_c hL
  go_wp2_with fail
  refine (qmust_no 0 1 (by decide) _).mono ?_
  rintro e u3 ⟨rfl, rfl⟩
  clear c0 c1 c2 f0 f1 f2
  have p0 := hL.get (P := pBlk w.heap.size #[.int .u64 0] 22) (by repeat (first | exact List.mem_cons_self | apply List.mem_cons_of_mem))
  have p1 := hL.get (P := pBlk (w.heap.size + 1) #[.int .i64 0] 3) (by repeat (first | exact List.mem_cons_self | apply List.mem_cons_of_mem))
  have p2 := hL.get (P := pBlk (w.heap.size + 1 + 1) #[.int .i64 0] 26) (by repeat (first | exact List.mem_cons_self | apply List.mem_cons_of_mem))
  have hbl := hL.below
  clear hL
  go_wp2
  refine leaves_cons (f := 87) (args := #[.pointer (some ⟨w.heap.size, 0, none⟩), .pointer (some ⟨w.heap.size + 1, 0, none⟩), .pointer (some ⟨w.heap.size + 1 + 1, 0, none⟩)]) (by simp) (by simp [go_sem]) ?_
  refine (qcatch_thrown w.heap.size 0 1 [] _ p0 p1 p2).mono ?_
  rintro e1 u8 w8 ⟨rfl, rfl, pd0, pd1, pd2, hb8⟩
  have y0 := pd0.cell 0 _ rfl
  have y1 := pd1.cell 0 _ rfl
  have y2 := pd2.cell 0 _ rfl
  have hbf := hbl.trans hb8
  clear p0 p1 p2 pd0 pd1 pd2
  simp [Leaves, settle, results, Tryz.results43, go_sem, y0, y1, y2]
  exact hbf
theorem mode_two {mode : Int} (h : ¬ (mode ≠ 1 ∧ mode ≠ 2)) : (mode != 1) = false ∨ ((mode != 1) = true ∧ (mode != 2) = false) := by
  by_cases h1 : mode = 1
  · left; simp [h1]
  · right
    refine ⟨by simp [h1], ?_⟩
    have : mode = 2 := Classical.byContradiction fun h2 => h ⟨h1, h2⟩
    simp [this]
theorem rd_bytes1 (w : World) (l : List UInt8) (n : Nat) (fr : Nat × Nat) : RdB (w.alloc (.cells (bytesRow (strL l) n) 5 fr)).drew (w.alloc (.cells (bytesRow (strL l) n) 5 fr)).drew.heap.size (some ⟨w.heap.size, 0, none⟩) l := by
  have h := rd_bytes w l n fr
  have h2 : (w.alloc (.cells (bytesRow (strL l) n) 5 fr)).drew.heap.size = w.heap.size + 1 := by simp
  rw [h2]
  exact h
end Go.Proofs.YtehpneojiinmdaaGreatDoor
namespace Go.Proofs.YtehpneojiinmdaaGreatDoor
open Go.RowKit Go.Cal
set_option maxRecDepth 100000 in
set_option maxHeartbeats 2000000 in
theorem parse_bad (id mode : Int) (l : List UInt8) (hl : l.length ≤ 1099511627776) (h1 : 1 ≤ id) (h2 : id < 15) (hm : ¬ (mode ≠ 1 ∧ mode ≠ 2)) (ht : (textS l).1 = false) (w : World) (hW : VaW w) :
    Calls Tryz.prog 43 #[.int .i64 id, .int .i64 mode, .string (strL l)] w fun e w' => e = .returned (.tuple #[.int .u64 0, .int .i64 ((textS l).2 : Nat), .int .i64 2]) ∧ Below w.heap.size w w' := by
  have hcv := fun w => run_bytes_of_string (P := Tryz.prog) w 9 61 5 (strL l) sunder_str sunder_bytes sunder_byte
  have hsz := strL_size l
  simp only [hsz] at hcv
  obtain ⟨at', hat⟩ : ∃ x, (textS l).2 = x := ⟨_, rfl⟩
  rw [hat]
  rcases mode_two hm with m1 | ⟨m1, m2⟩
  all_goals
    clear hm
    skip
    have hmf : ∀ (fn : Fn) (first cap : Array Value) (w : World), (Instr.makeFunc fn first cap).run Tryz.prog w = .ok (.func fn first cap) w := fun _ _ _ _ => rfl
    have hfo := Lib.hid (fun (W : World) (hW : VaW W) => fo_of id W hW.frm h1 h2)
    have hL := parse_start w
    go_enter_defers Tryz.func43, Tryz.ntmps43
    go_wp2_with fail
    refine (hfo.out _ (hW.below hL.below)).mono ?_
    rintro e u1 ⟨rfl, hb1⟩
    have hF := pBlk_made u1 #[.int .i64 (fK id), .int .i64 (fW id), .int .i64 (fM id), .int .i64 (fB id), .int .u64 (fT id), .int .u64 (fI id), .int .u64 (fN id)] 25
    replace hL := (hL.go hb1).go ((Below.refl _ _).alloc (Nat.le_refl _) (.cells #[.int .i64 (fK id), .int .i64 (fW id), .int .i64 (fM id), .int .i64 (fB id), .int .u64 (fT id), .int .u64 (fI id), .int .u64 (fN id)] 25))
    obtain ⟨c0, c1, c2, f0, f1, f2, hlt⟩ := get_c hL
    go_wp2_with fail
    refine (qmust_yes 0 _).mono ?_
    rintro e u2 ⟨rfl, rfl⟩
    have hgF : w.heap.size + 1 + 1 < u1.heap.size := by
      have := hb1.size
      simp at this
      omega
    replace hL := set_e hL 0
    replace hF := hF.othX (g' := w.heap.size + 1 + 1) (by omega) 0 (.int .i64 0)
    clear c0 c1 c2 f0 f1 f2 hlt hb1
    obtain ⟨W1, hW1⟩ : ∃ W1, ((u1.alloc (.cells #[.int .i64 (fK id), .int .i64 (fW id), .int .i64 (fM id), .int .i64 (fB id), .int .u64 (fT id), .int .u64 (fI id), .int .u64 (fN id)] 25)).setCell ⟨w.heap.size + 1 + 1, 0, none⟩ (.int .i64 0)) = W1 := ⟨_, rfl⟩
    rw [hW1] at hL hF ⊢
    clear hW1
    obtain ⟨gF, hgE⟩ : ∃ g, u1.heap.size = g := ⟨_, rfl⟩
    rw [hgE] at hF hgF ⊢
    clear hgE
    obtain ⟨c0, c1, c2, f0, f1, f2, hlt⟩ := get_c hL
    go_wp2_with fail
    refine (scan_any l _ _ (rd_bytes1 W1 l _ _) hl).mono ?_
    rintro e w2 ⟨hcase, hb⟩
    rcases hcase with ⟨h0, _⟩ | ⟨_, rfl⟩
    · rw [ht] at h0; cases h0
    rw [hat]
    unfold itemNo
    replace hL := hL.go (((Below.refl _ _).alloc (Nat.le_refl _) _).drew.trans (hb.mono (by simp)))
    replace hL := hL.go ((Below.refl _ _).alloc (Nat.le_refl _) (.cells #[.int .i64 0, .bool false, .slice none 0 0, .int .i64 0, .int .i64 0, .bool false] 145))
    clear c0 c1 c2 f0 f1 f2 hlt hcv hsz hat
    obtain ⟨c0, c1, c2, f0, f1, f2, hlt⟩ := get_c hL
    go_wp2_with fail
    refine (qmust_no at' 2 (by decide) _).mono ?_
    rintro e u4 ⟨rfl, rfl⟩
    replace hL := set_e (set_a hL at') 2
    clear c0 c1 c2 f0 f1 f2 hlt
    have p0 := hL.get (P := pBlk w.heap.size #[.int .u64 0] 22) (by repeat (first | exact List.mem_cons_self | apply List.mem_cons_of_mem))
    have p1 := hL.get (P := pBlk (w.heap.size + 1) #[.int .i64 at'] 3) (by repeat (first | exact List.mem_cons_self | apply List.mem_cons_of_mem))
    have p2 := hL.get (P := pBlk (w.heap.size + 1 + 1) #[.int .i64 2] 26) (by repeat (first | exact List.mem_cons_self | apply List.mem_cons_of_mem))
    have hbl := hL.below
    clear hL
    go_wp2
    refine leaves_cons (f := 87) (args := #[.pointer (some ⟨w.heap.size, 0, none⟩), .pointer (some ⟨w.heap.size + 1, 0, none⟩), .pointer (some ⟨w.heap.size + 1 + 1, 0, none⟩)]) (by simp) (by simp [go_sem]) ?_
    refine (qcatch_thrown w.heap.size at' 2 [] _ p0 p1 p2).mono ?_
    rintro e1 u8 w8 ⟨rfl, rfl, pd0, pd1, pd2, hb8⟩
    have y0 := pd0.cell 0 _ rfl
    have y1 := pd1.cell 0 _ rfl
    have y2 := pd2.cell 0 _ rfl
    have hbf := hbl.trans hb8
    clear p0 p1 p2 pd0 pd1 pd2
    simp [Leaves, settle, results, Tryz.results43, go_sem, y0, y1, y2]
    exact hbf
end Go.Proofs.YtehpneojiinmdaaGreatDoor
namespace Go.Proofs.YtehpneojiinmdaaGreatDoor
open Go.RowKit Go.Cal
theorem pBlk_cells6 {g : Nat} {a b c d e f : Value} {t : TypeId} {w : World} (hp : pBlk g #[a, b, c, d, e, f] t w) : w.cell? ⟨g, 0, none⟩ = some a ∧ w.cell? ⟨g, 1, none⟩ = some b ∧ w.cell? ⟨g, 2, none⟩ = some c ∧ w.cell? ⟨g, 3, none⟩ = some d ∧ w.cell? ⟨g, 4, none⟩ = some e ∧ w.cell? ⟨g, 5, none⟩ = some f :=
  ⟨hp.cell 0 _ rfl, hp.cell 1 _ rfl, hp.cell 2 _ rfl, hp.cell 3 _ rfl, hp.cell 4 _ rfl, hp.cell 5 _ rfl⟩
theorem number_item {w : World} (it : Cal.Item) (hok : ItemOk it) {A : Option Addr} {n c : Nat} (hv : IsT w (.slice A n c) 2000 it.d) :
    Calls Tryz.prog 91 #[.agg #[.int .i64 (it.kind : Nat), .bool it.neg, .slice A n c, .int .i64 it.k, .int .i64 it.big, .bool it.cut]] w fun e w' => ∃ A5 n5 c5, e = .returned (.agg #[.bool it.neg, .slice A5 n5 c5, .int .i64 (numX it), .int .i64 (numX it)]) ∧ IsT w' (.slice A5 n5 c5) 128 (numN it) ∧ Below w.heap.size w w' := by
  unfold numX numN
  by_cases h : it.big = 0
  · rw [if_pos h, if_pos h, h]
    obtain ⟨a, b, d⟩ := hok.num h
    exact number_near it.kind it.neg it.cut it.k (IsT.isN hv) (by decide) a ⟨b, d⟩
  · rw [if_neg h, if_neg h]
    exact number_far it.kind it.neg it.cut A n c it.k it.big (by rcases hok.big with h1 | h1 | h1; exact absurd h1 h; exact .inl h1; exact .inr h1) w
theorem no_u64 (x : Int) : ∀ y ∈ (#[.int .i64 x] : Array Value).toList, ∀ n, y ≠ .int .u64 n := by simp
set_option maxRecDepth 100000 in
set_option maxHeartbeats 2000000 in
theorem parse_noword (id mode : Int) (l : List UInt8) (hl : l.length ≤ 1099511627776) (h1 : 1 ≤ id) (h2 : id < 15) (hm : ¬ (mode ≠ 1 ∧ mode ≠ 2)) (ht : (textS l).1 = true) (it : Cal.Item) (hitE : textV 1125899906842624 l = it) (hk : (it.kind : Int) = 2 ∨ (it.kind : Int) = 3 ∨ (it.kind : Int) = 4) (hwd : wordB id it.kind it.neg = false) (w : World) (hW : VaW w) :
    Calls Tryz.prog 43 #[.int .i64 id, .int .i64 mode, .string (strL l)] w fun e w' => e = .returned (.tuple #[.int .u64 0, .int .i64 (if it.neg = true then 1 else 0), .int .i64 5]) ∧ Below w.heap.size w w' := by
  have hcv := fun w => run_bytes_of_string (P := Tryz.prog) w 9 61 5 (strL l) sunder_str sunder_bytes sunder_byte
  have hsz := strL_size l
  simp only [hsz] at hcv
  have hk1 : ((it.kind : Int) != 1) = true := by rw [bne_iff_ne]; omega
  have hwn := Lib.hid (fun A n c k big cut w => word_no id h1 h2 it.kind hk it.neg cut A n c k big w hwd)
  clear hwd hk
  obtain ⟨aw, haw⟩ : ∃ x : Int, (if it.neg = true then 1 else 0) = x := ⟨_, rfl⟩
  rw [haw] at hwn ⊢
  clear haw
  rcases mode_two hm with m1 | ⟨m1, m2⟩
  all_goals
    clear hm
    skip
    have hmf : ∀ (fn : Fn) (first cap : Array Value) (w : World), (Instr.makeFunc fn first cap).run Tryz.prog w = .ok (.func fn first cap) w := fun _ _ _ _ => rfl
    have hfo := Lib.hid (fun (W : World) (hW : VaW W) => fo_of id W hW.frm h1 h2)
    have hL := parse_start w
    go_enter_defers Tryz.func43, Tryz.ntmps43
    go_wp2_with fail
    refine (hfo.out _ (hW.below hL.below)).mono ?_
    rintro e u1 ⟨rfl, hb1⟩
    have hF := pBlk_made u1 #[.int .i64 (fK id), .int .i64 (fW id), .int .i64 (fM id), .int .i64 (fB id), .int .u64 (fT id), .int .u64 (fI id), .int .u64 (fN id)] 25
    replace hL := (hL.go hb1).go ((Below.refl _ _).alloc (Nat.le_refl _) (.cells #[.int .i64 (fK id), .int .i64 (fW id), .int .i64 (fM id), .int .i64 (fB id), .int .u64 (fT id), .int .u64 (fI id), .int .u64 (fN id)] 25))
    obtain ⟨c0, c1, c2, f0, f1, f2, hlt⟩ := get_c hL
    go_wp2_with fail
    refine (qmust_yes 0 _).mono ?_
    rintro e u2 ⟨rfl, rfl⟩
    have hgF : w.heap.size + 1 + 1 < u1.heap.size := by
      have := hb1.size
      simp at this
      omega
    replace hL := set_e hL 0
    replace hF := hF.othX (g' := w.heap.size + 1 + 1) (by omega) 0 (.int .i64 0)
    clear c0 c1 c2 f0 f1 f2 hlt hb1
    obtain ⟨W1, hW1⟩ : ∃ W1, ((u1.alloc (.cells #[.int .i64 (fK id), .int .i64 (fW id), .int .i64 (fM id), .int .i64 (fB id), .int .u64 (fT id), .int .u64 (fI id), .int .u64 (fN id)] 25)).setCell ⟨w.heap.size + 1 + 1, 0, none⟩ (.int .i64 0)) = W1 := ⟨_, rfl⟩
    rw [hW1] at hL hF ⊢
    clear hW1
    obtain ⟨gF, hgE⟩ : ∃ g, u1.heap.size = g := ⟨_, rfl⟩
    rw [hgE] at hF hgF ⊢
    clear hgE
    obtain ⟨c0, c1, c2, f0, f1, f2, hlt⟩ := get_c hL
    go_wp2_with fail
    refine (scan_any l _ _ (rd_bytes1 W1 l _ _) hl).mono ?_
    rintro e w2 ⟨hcase, hb⟩
    rcases hcase with ⟨_, v, rfl, hit⟩ | ⟨h0, _⟩
    case inr => rw [ht] at h0; cases h0
    rw [hitE] at hit
    obtain ⟨A3, c3, zs, rfl, r1, r2, r3, r4, r5, -⟩ := hit
    have hv : IsT w2 (.slice A3 zs.length c3) 2000 it.d := ⟨A3, c3, zs, rfl, r1, r2, r3, r4, r5⟩
    clear r1 r2 r3 r4 r5
    obtain ⟨n3, hn3⟩ : ∃ n, zs.length = n := ⟨_, rfl⟩
    rw [hn3] at hv ⊢
    clear hn3
    have hbw : Below W1.heap.size W1 w2 := ((Below.refl _ _).alloc (Nat.le_refl _) _).drew.trans (hb.mono (by simp))
    clear hb
    have hal : Below w2.heap.size w2 (w2.alloc (.cells #[.int .i64 (it.kind : Nat), .bool it.neg, .slice A3 n3 c3, .int .i64 it.k, .int .i64 it.big, .bool it.cut] 145)) := (Below.refl _ _).alloc (Nat.le_refl _) _
    have hI := pBlk_made w2 #[.int .i64 (it.kind : Nat), .bool it.neg, .slice A3 n3 c3, .int .i64 it.k, .int .i64 it.big, .bool it.cut] 145
    replace hF := pBlk_st _ _ _ _ _ (pBlk_st _ _ _ _ _ hF hbw) hal
    replace hv := hv.below hal
    replace hL := (hL.go hbw).go hal
    have hgI : w.heap.size + 1 + 1 < w2.heap.size := by have := hbw.size; omega
    clear c0 c1 c2 f0 f1 f2 hlt hcv hsz hbw hal
    obtain ⟨gI, hgE⟩ : ∃ g, w2.heap.size = g := ⟨_, rfl⟩
    obtain ⟨c0, c1, c2, f0, f1, f2, hlt⟩ := get_c hL
    rw [hgE] at hI hgI
    have hgI' := Lib.hid hgI
    clear hgI
    go_wp2_with fail
    refine (qmust_yes 0 _).mono ?_
    rintro e u4 ⟨rfl, rfl⟩
    have hgI := hgI'.out
    replace hv := (hv.apartX (i := 0) (u := .int .i64 0) (hL.get (P := pBlk (w.heap.size + 1) #[.int .i64 0] 3) (by repeat (first | exact List.mem_cons_self | apply List.mem_cons_of_mem))) (no_u64 _))
    replace hI := hI.othX (g' := w.heap.size + 1) (by omega) 0 (.int .i64 0)
    replace hF := hF.othX (g' := w.heap.size + 1) (by omega) 0 (.int .i64 0)
    replace hL := set_a hL 0
    replace hv := (hv.apartX (i := 0) (u := .int .i64 0) (hL.get (P := pBlk (w.heap.size + 1 + 1) #[.int .i64 0] 26) (by repeat (first | exact List.mem_cons_self | apply List.mem_cons_of_mem))) (no_u64 _))
    replace hI := hI.othX (g' := w.heap.size + 1 + 1) (by omega) 0 (.int .i64 0)
    replace hF := hF.othX (g' := w.heap.size + 1 + 1) (by omega) 0 (.int .i64 0)
    replace hL := set_e hL 0
    clear c0 c1 c2 f0 f1 f2 hlt
    (try rw [hgE])
    obtain ⟨W3, hW3⟩ : ∃ W3, (((w2.alloc (.cells #[.int .i64 (it.kind : Nat), .bool it.neg, .slice A3 n3 c3, .int .i64 it.k, .int .i64 it.big, .bool it.cut] 145)).setCell ⟨w.heap.size + 1, 0, none⟩ (.int .i64 0)).setCell ⟨w.heap.size + 1 + 1, 0, none⟩ (.int .i64 0)) = W3 := ⟨_, rfl⟩
    rw [hW3] at hL hF hI hv ⊢
    clear hW3 hgE hgI'
    obtain ⟨c0, c1, c2, f0, f1, f2, hlt⟩ := get_c hL
    obtain ⟨i0, i1, i2, i3, i4, i5⟩ := pBlk_cells6 hI
    have k0 := hF.cell 0 _ rfl
    have k1 := hF.cell 1 _ rfl
    have k2 := hF.cell 2 _ rfl
    have k3 := hF.cell 3 _ rfl
    have k4 := hF.cell 4 _ rfl
    have k5 := hF.cell 5 _ rfl
    have k6 := hF.cell 6 _ rfl
    go_wp2_with fail
    refine (hwn.out _ _ _ _ _ _ _).mono ?_
    rintro e w4 ⟨rfl, hb4⟩
    replace hL := hL.go hb4
    clear c0 c1 c2 f0 f1 f2 hlt
    have p0 := hL.get (P := pBlk w.heap.size #[.int .u64 0] 22) (by repeat (first | exact List.mem_cons_self | apply List.mem_cons_of_mem))
    have p1 := hL.get (P := pBlk (w.heap.size + 1) #[.int .i64 0] 3) (by repeat (first | exact List.mem_cons_self | apply List.mem_cons_of_mem))
    have p2 := hL.get (P := pBlk (w.heap.size + 1 + 1) #[.int .i64 0] 26) (by repeat (first | exact List.mem_cons_self | apply List.mem_cons_of_mem))
    have hbl := hL.below
    clear hL
    go_wp2
    refine leaves_cons (f := 87) (args := #[.pointer (some ⟨w.heap.size, 0, none⟩), .pointer (some ⟨w.heap.size + 1, 0, none⟩), .pointer (some ⟨w.heap.size + 1 + 1, 0, none⟩)]) (by simp) (by simp [go_sem]) ?_
    refine (qcatch_thrown w.heap.size aw 5 [] _ p0 p1 p2).mono ?_
    rintro e1 u8 w8 ⟨rfl, rfl, pd0, pd1, pd2, hb8⟩
    have y0 := pd0.cell 0 _ rfl
    have y1 := pd1.cell 0 _ rfl
    have y2 := pd2.cell 0 _ rfl
    have hbf := hbl.trans hb8
    clear p0 p1 p2 pd0 pd1 pd2
    simp [Leaves, settle, results, Tryz.results43, go_sem, y0, y1, y2]
    exact hbf
set_option maxRecDepth 100000 in
set_option maxHeartbeats 2000000 in
theorem parse_word (id mode : Int) (l : List UInt8) (hl : l.length ≤ 1099511627776) (h1 : 1 ≤ id) (h2 : id < 15) (hm : ¬ (mode ≠ 1 ∧ mode ≠ 2)) (ht : (textS l).1 = true) (it : Cal.Item) (hitE : textV 1125899906842624 l = it) (hk : (it.kind : Int) = 2 ∨ (it.kind : Int) = 3 ∨ (it.kind : Int) = 4) (hwd : wordB id it.kind it.neg = true) (w : World) (hW : VaW w) :
    Calls Tryz.prog 43 #[.int .i64 id, .int .i64 mode, .string (strL l)] w fun e w' => e = .returned (.tuple #[.int .u64 (wordP id it.kind it.neg), .int .i64 0, .int .i64 0]) ∧ Below w.heap.size w w' := by
  have hcv := fun w => run_bytes_of_string (P := Tryz.prog) w 9 61 5 (strL l) sunder_str sunder_bytes sunder_byte
  have hsz := strL_size l
  simp only [hsz] at hcv
  have hk1 : ((it.kind : Int) != 1) = true := by rw [bne_iff_ne]; omega
  have hwn := Lib.hid (fun A n c k big cut w => word_yes id h1 h2 it.kind hk it.neg cut A n c k big w hwd)
  clear hwd hk
  rcases mode_two hm with m1 | ⟨m1, m2⟩
  all_goals
    clear hm
    skip
    have hmf : ∀ (fn : Fn) (first cap : Array Value) (w : World), (Instr.makeFunc fn first cap).run Tryz.prog w = .ok (.func fn first cap) w := fun _ _ _ _ => rfl
    have hfo := Lib.hid (fun (W : World) (hW : VaW W) => fo_of id W hW.frm h1 h2)
    have hL := parse_start w
    go_enter_defers Tryz.func43, Tryz.ntmps43
    go_wp2_with fail
    refine (hfo.out _ (hW.below hL.below)).mono ?_
    rintro e u1 ⟨rfl, hb1⟩
    have hF := pBlk_made u1 #[.int .i64 (fK id), .int .i64 (fW id), .int .i64 (fM id), .int .i64 (fB id), .int .u64 (fT id), .int .u64 (fI id), .int .u64 (fN id)] 25
    replace hL := (hL.go hb1).go ((Below.refl _ _).alloc (Nat.le_refl _) (.cells #[.int .i64 (fK id), .int .i64 (fW id), .int .i64 (fM id), .int .i64 (fB id), .int .u64 (fT id), .int .u64 (fI id), .int .u64 (fN id)] 25))
    obtain ⟨c0, c1, c2, f0, f1, f2, hlt⟩ := get_c hL
    go_wp2_with fail
    refine (qmust_yes 0 _).mono ?_
    rintro e u2 ⟨rfl, rfl⟩
    have hgF : w.heap.size + 1 + 1 < u1.heap.size := by
      have := hb1.size
      simp at this
      omega
    replace hL := set_e hL 0
    replace hF := hF.othX (g' := w.heap.size + 1 + 1) (by omega) 0 (.int .i64 0)
    clear c0 c1 c2 f0 f1 f2 hlt hb1
    obtain ⟨W1, hW1⟩ : ∃ W1, ((u1.alloc (.cells #[.int .i64 (fK id), .int .i64 (fW id), .int .i64 (fM id), .int .i64 (fB id), .int .u64 (fT id), .int .u64 (fI id), .int .u64 (fN id)] 25)).setCell ⟨w.heap.size + 1 + 1, 0, none⟩ (.int .i64 0)) = W1 := ⟨_, rfl⟩
    rw [hW1] at hL hF ⊢
    clear hW1
    obtain ⟨gF, hgE⟩ : ∃ g, u1.heap.size = g := ⟨_, rfl⟩
    rw [hgE] at hF hgF ⊢
    clear hgE
    obtain ⟨c0, c1, c2, f0, f1, f2, hlt⟩ := get_c hL
    go_wp2_with fail
    refine (scan_any l _ _ (rd_bytes1 W1 l _ _) hl).mono ?_
    rintro e w2 ⟨hcase, hb⟩
    rcases hcase with ⟨_, v, rfl, hit⟩ | ⟨h0, _⟩
    case inr => rw [ht] at h0; cases h0
    rw [hitE] at hit
    obtain ⟨A3, c3, zs, rfl, r1, r2, r3, r4, r5, -⟩ := hit
    have hv : IsT w2 (.slice A3 zs.length c3) 2000 it.d := ⟨A3, c3, zs, rfl, r1, r2, r3, r4, r5⟩
    clear r1 r2 r3 r4 r5
    obtain ⟨n3, hn3⟩ : ∃ n, zs.length = n := ⟨_, rfl⟩
    rw [hn3] at hv ⊢
    clear hn3
    have hbw : Below W1.heap.size W1 w2 := ((Below.refl _ _).alloc (Nat.le_refl _) _).drew.trans (hb.mono (by simp))
    clear hb
    have hal : Below w2.heap.size w2 (w2.alloc (.cells #[.int .i64 (it.kind : Nat), .bool it.neg, .slice A3 n3 c3, .int .i64 it.k, .int .i64 it.big, .bool it.cut] 145)) := (Below.refl _ _).alloc (Nat.le_refl _) _
    have hI := pBlk_made w2 #[.int .i64 (it.kind : Nat), .bool it.neg, .slice A3 n3 c3, .int .i64 it.k, .int .i64 it.big, .bool it.cut] 145
    replace hF := pBlk_st _ _ _ _ _ (pBlk_st _ _ _ _ _ hF hbw) hal
    replace hv := hv.below hal
    replace hL := (hL.go hbw).go hal
    have hgI : w.heap.size + 1 + 1 < w2.heap.size := by have := hbw.size; omega
    clear c0 c1 c2 f0 f1 f2 hlt hcv hsz hbw hal
    obtain ⟨gI, hgE⟩ : ∃ g, w2.heap.size = g := ⟨_, rfl⟩
    obtain ⟨c0, c1, c2, f0, f1, f2, hlt⟩ := get_c hL
    rw [hgE] at hI hgI
    have hgI' := Lib.hid hgI
    clear hgI
    go_wp2_with fail
    refine (qmust_yes 0 _).mono ?_
    rintro e u4 ⟨rfl, rfl⟩
    have hgI := hgI'.out
    replace hv := (hv.apartX (i := 0) (u := .int .i64 0) (hL.get (P := pBlk (w.heap.size + 1) #[.int .i64 0] 3) (by repeat (first | exact List.mem_cons_self | apply List.mem_cons_of_mem))) (no_u64 _))
    replace hI := hI.othX (g' := w.heap.size + 1) (by omega) 0 (.int .i64 0)
    replace hF := hF.othX (g' := w.heap.size + 1) (by omega) 0 (.int .i64 0)
    replace hL := set_a hL 0
    replace hv := (hv.apartX (i := 0) (u := .int .i64 0) (hL.get (P := pBlk (w.heap.size + 1 + 1) #[.int .i64 0] 26) (by repeat (first | exact List.mem_cons_self | apply List.mem_cons_of_mem))) (no_u64 _))
    replace hI := hI.othX (g' := w.heap.size + 1 + 1) (by omega) 0 (.int .i64 0)
    replace hF := hF.othX (g' := w.heap.size + 1 + 1) (by omega) 0 (.int .i64 0)
    replace hL := set_e hL 0
    clear c0 c1 c2 f0 f1 f2 hlt
    (try rw [hgE])
    obtain ⟨W3, hW3⟩ : ∃ W3, (((w2.alloc (.cells #[.int .i64 (it.kind : Nat), .bool it.neg, .slice A3 n3 c3, .int .i64 it.k, .int .i64 it.big, .bool it.cut] 145)).setCell ⟨w.heap.size + 1, 0, none⟩ (.int .i64 0)).setCell ⟨w.heap.size + 1 + 1, 0, none⟩ (.int .i64 0)) = W3 := ⟨_, rfl⟩
    rw [hW3] at hL hF hI hv ⊢
    clear hW3 hgE hgI'
    obtain ⟨c0, c1, c2, f0, f1, f2, hlt⟩ := get_c hL
    obtain ⟨i0, i1, i2, i3, i4, i5⟩ := pBlk_cells6 hI
    have k0 := hF.cell 0 _ rfl
    have k1 := hF.cell 1 _ rfl
    have k2 := hF.cell 2 _ rfl
    have k3 := hF.cell 3 _ rfl
    have k4 := hF.cell 4 _ rfl
    have k5 := hF.cell 5 _ rfl
    have k6 := hF.cell 6 _ rfl
    go_wp2_with fail
    refine (hwn.out _ _ _ _ _ _ _).mono ?_
    rintro e w4 ⟨rfl, hb4⟩
    replace hL := hL.go hb4
    clear c0 c1 c2 f0 f1 f2 hlt
    obtain ⟨c0, c1, c2, f0, f1, f2, hlt⟩ := get_c hL
    have hL4 := set_e (set_a (set_p hL (wordP id it.kind it.neg)) 0) 0
    obtain ⟨d0, d1, d2, -⟩ := get_c hL4
    go_wp2
    show Leaves _ _ _ _ _ .returning _
    refine leaves_cons (f := 87) (args := #[.pointer (some ⟨w.heap.size, 0, none⟩), .pointer (some ⟨w.heap.size + 1, 0, none⟩), .pointer (some ⟨w.heap.size + 1 + 1, 0, none⟩)]) (by simp) (by simp [go_sem]) ?_
    refine (qcatch_idle w.heap.size _).mono ?_
    rintro e1 u8 w8 ⟨rfl, rfl, rfl⟩
    simp [Leaves, settle, results, Tryz.results43, go_sem, d0, d1, d2]
    exact hL4.below
set_option maxRecDepth 100000 in
set_option maxHeartbeats 2000000 in
theorem parse_num (id mode : Int) (l : List UInt8) (hl : l.length ≤ 1099511627776) (h1 : 1 ≤ id) (h2 : id < 15) (hm : ¬ (mode ≠ 1 ∧ mode ≠ 2)) (ht : (textS l).1 = true) (it : Cal.Item) (hitE : textV 1125899906842624 l = it) (hk : it.kind = 1) (hok : ItemOk it) (w : World) (hW : VaW w) :
    Calls Tryz.prog 43 #[.int .i64 id, .int .i64 mode, .string (strL l)] w fun e w' => e = .returned (.tuple #[.int .u64 (roundP id mode it.neg (exP (numN it) (numX it) (numX it)) (exQ (numX it) (numX it))), .int .i64 0, .int .i64 0]) ∧ Below w.heap.size w w' := by
  have hcv := fun w => run_bytes_of_string (P := Tryz.prog) w 9 61 5 (strL l) sunder_str sunder_bytes sunder_byte
  have hsz := strL_size l
  simp only [hsz] at hcv
  have hk1 : ((it.kind : Int) != 1) = false := by rw [hk]; rfl
  have hE : roundE id mode = 0 := by unfold roundE; rw [if_neg (by omega), if_neg hm]
  have hX : -5000 ≤ numX it ∧ numX it ≤ 5000 := by
    unfold numX
    split
    · rename_i hz
      exact (hok.num hz).2
    · rcases hok.big with h | h | h
      · contradiction
      · rw [h]; decide
      · rw [h]; decide
  have hnb := Lib.hid (fun (W : World) A n c (hv : IsT W (.slice A n c) 2000 it.d) => number_item it hok hv)
  have hrd := Lib.hid (fun (W : World) A n c (hW : VaW W) (hv : IsT W (.slice A n c) 128 (numN it)) => rround_any id mode it.neg (numX it) (numX it) hW hv hX hX)
  have hRR : roundR id mode it.neg (exP (numN it) (numX it) (numX it)) (exQ (numX it) (numX it)) = roundP id mode it.neg (exP (numN it) (numX it) (numX it)) (exQ (numX it) (numX it)) := by unfold roundR; rw [if_pos hE]
  rw [hRR, hE] at hrd
  generalize roundP id mode it.neg (exP (numN it) (numX it) (numX it)) (exQ (numX it) (numX it)) = rp at hrd ⊢
  clear hE hRR hX hok
  replace hk := Lib.hid hk
  rcases mode_two hm with m1 | ⟨m1, m2⟩
  all_goals
    clear hm
    skip
    have hmf : ∀ (fn : Fn) (first cap : Array Value) (w : World), (Instr.makeFunc fn first cap).run Tryz.prog w = .ok (.func fn first cap) w := fun _ _ _ _ => rfl
    have hfo := Lib.hid (fun (W : World) (hW : VaW W) => fo_of id W hW.frm h1 h2)
    have hL := parse_start w
    go_enter_defers Tryz.func43, Tryz.ntmps43
    go_wp2_with fail
    refine (hfo.out _ (hW.below hL.below)).mono ?_
    rintro e u1 ⟨rfl, hb1⟩
    have hF := pBlk_made u1 #[.int .i64 (fK id), .int .i64 (fW id), .int .i64 (fM id), .int .i64 (fB id), .int .u64 (fT id), .int .u64 (fI id), .int .u64 (fN id)] 25
    replace hL := (hL.go hb1).go ((Below.refl _ _).alloc (Nat.le_refl _) (.cells #[.int .i64 (fK id), .int .i64 (fW id), .int .i64 (fM id), .int .i64 (fB id), .int .u64 (fT id), .int .u64 (fI id), .int .u64 (fN id)] 25))
    obtain ⟨c0, c1, c2, f0, f1, f2, hlt⟩ := get_c hL
    go_wp2_with fail
    refine (qmust_yes 0 _).mono ?_
    rintro e u2 ⟨rfl, rfl⟩
    have hgF : w.heap.size + 1 + 1 < u1.heap.size := by
      have := hb1.size
      simp at this
      omega
    replace hL := set_e hL 0
    replace hF := hF.othX (g' := w.heap.size + 1 + 1) (by omega) 0 (.int .i64 0)
    clear c0 c1 c2 f0 f1 f2 hlt hb1
    obtain ⟨W1, hW1⟩ : ∃ W1, ((u1.alloc (.cells #[.int .i64 (fK id), .int .i64 (fW id), .int .i64 (fM id), .int .i64 (fB id), .int .u64 (fT id), .int .u64 (fI id), .int .u64 (fN id)] 25)).setCell ⟨w.heap.size + 1 + 1, 0, none⟩ (.int .i64 0)) = W1 := ⟨_, rfl⟩
    rw [hW1] at hL hF ⊢
    clear hW1
    obtain ⟨gF, hgE⟩ : ∃ g, u1.heap.size = g := ⟨_, rfl⟩
    rw [hgE] at hF hgF ⊢
    clear hgE
    obtain ⟨c0, c1, c2, f0, f1, f2, hlt⟩ := get_c hL
    go_wp2_with fail
    refine (scan_any l _ _ (rd_bytes1 W1 l _ _) hl).mono ?_
    rintro e w2 ⟨hcase, hb⟩
    rcases hcase with ⟨_, v, rfl, hit⟩ | ⟨h0, _⟩
    case inr => rw [ht] at h0; cases h0
    rw [hitE] at hit
    obtain ⟨A3, c3, zs, rfl, r1, r2, r3, r4, r5, -⟩ := hit
    have hv : IsT w2 (.slice A3 zs.length c3) 2000 it.d := ⟨A3, c3, zs, rfl, r1, r2, r3, r4, r5⟩
    clear r1 r2 r3 r4 r5
    obtain ⟨n3, hn3⟩ : ∃ n, zs.length = n := ⟨_, rfl⟩
    rw [hn3] at hv ⊢
    clear hn3
    have hbw : Below W1.heap.size W1 w2 := ((Below.refl _ _).alloc (Nat.le_refl _) _).drew.trans (hb.mono (by simp))
    clear hb
    have hal : Below w2.heap.size w2 (w2.alloc (.cells #[.int .i64 (it.kind : Nat), .bool it.neg, .slice A3 n3 c3, .int .i64 it.k, .int .i64 it.big, .bool it.cut] 145)) := (Below.refl _ _).alloc (Nat.le_refl _) _
    have hI := pBlk_made w2 #[.int .i64 (it.kind : Nat), .bool it.neg, .slice A3 n3 c3, .int .i64 it.k, .int .i64 it.big, .bool it.cut] 145
    replace hF := pBlk_st _ _ _ _ _ (pBlk_st _ _ _ _ _ hF hbw) hal
    replace hv := hv.below hal
    replace hL := (hL.go hbw).go hal
    have hgI : w.heap.size + 1 + 1 < w2.heap.size := by have := hbw.size; omega
    clear c0 c1 c2 f0 f1 f2 hlt hcv hsz hbw hal
    obtain ⟨gI, hgE⟩ : ∃ g, w2.heap.size = g := ⟨_, rfl⟩
    obtain ⟨c0, c1, c2, f0, f1, f2, hlt⟩ := get_c hL
    rw [hgE] at hI hgI
    have hgI' := Lib.hid hgI
    clear hgI
    go_wp2_with fail
    refine (qmust_yes 0 _).mono ?_
    rintro e u4 ⟨rfl, rfl⟩
    have hgI := hgI'.out
    replace hv := (hv.apartX (i := 0) (u := .int .i64 0) (hL.get (P := pBlk (w.heap.size + 1) #[.int .i64 0] 3) (by repeat (first | exact List.mem_cons_self | apply List.mem_cons_of_mem))) (no_u64 _))
    replace hI := hI.othX (g' := w.heap.size + 1) (by omega) 0 (.int .i64 0)
    replace hF := hF.othX (g' := w.heap.size + 1) (by omega) 0 (.int .i64 0)
    replace hL := set_a hL 0
    replace hv := (hv.apartX (i := 0) (u := .int .i64 0) (hL.get (P := pBlk (w.heap.size + 1 + 1) #[.int .i64 0] 26) (by repeat (first | exact List.mem_cons_self | apply List.mem_cons_of_mem))) (no_u64 _))
    replace hI := hI.othX (g' := w.heap.size + 1 + 1) (by omega) 0 (.int .i64 0)
    replace hF := hF.othX (g' := w.heap.size + 1 + 1) (by omega) 0 (.int .i64 0)
    replace hL := set_e hL 0
    clear c0 c1 c2 f0 f1 f2 hlt
    (try rw [hgE])
    obtain ⟨W3, hW3⟩ : ∃ W3, (((w2.alloc (.cells #[.int .i64 (it.kind : Nat), .bool it.neg, .slice A3 n3 c3, .int .i64 it.k, .int .i64 it.big, .bool it.cut] 145)).setCell ⟨w.heap.size + 1, 0, none⟩ (.int .i64 0)).setCell ⟨w.heap.size + 1 + 1, 0, none⟩ (.int .i64 0)) = W3 := ⟨_, rfl⟩
    rw [hW3] at hL hF hI hv ⊢
    clear hW3 hgE hgI'
    obtain ⟨c0, c1, c2, f0, f1, f2, hlt⟩ := get_c hL
    obtain ⟨i0, i1, i2, i3, i4, i5⟩ := pBlk_cells6 hI
    have k0 := hF.cell 0 _ rfl
    have k1 := hF.cell 1 _ rfl
    have k2 := hF.cell 2 _ rfl
    have k3 := hF.cell 3 _ rfl
    have k4 := hF.cell 4 _ rfl
    have k5 := hF.cell 5 _ rfl
    have k6 := hF.cell 6 _ rfl
    go_wp2_with fail
    refine (hnb.out _ _ _ _ hv).mono ?_
    rintro e w4 ⟨A5, n5, c5, rfl, hv5, hb4⟩
    replace hL := hL.go hb4
    clear c0 c1 c2 f0 f1 f2 hlt i0 i1 i2 i3 i4 i5 k0 k1 k2 k3 k4 k5 k6 hv hI hF
    obtain ⟨c0, c1, c2, f0, f1, f2, hlt⟩ := get_c hL
    go_wp2_with fail
    refine (hrd.out _ _ _ _ (hW.below hL.below) hv5).mono ?_
    rintro e w5 ⟨rfl, hb5⟩
    replace hL := hL.go hb5
    clear c0 c1 c2 f0 f1 f2 hlt
    obtain ⟨c0, c1, c2, f0, f1, f2, hlt⟩ := get_c hL
    go_wp2_with fail
    refine (qmust_yes 0 _).mono ?_
    rintro e u6 ⟨rfl, rfl⟩
    replace hL := set_e (set_p hL rp) 0
    clear c0 c1 c2 f0 f1 f2 hlt
    obtain ⟨W6, hW6⟩ : ∃ W, ((w5.setCell ⟨w.heap.size, 0, none⟩ (.int .u64 rp)).setCell ⟨w.heap.size + 1 + 1, 0, none⟩ (.int .i64 0)) = W := ⟨_, rfl⟩
    rw [hW6] at hL ⊢
    clear hW6
    obtain ⟨c0, c1, c2, f0, f1, f2, hlt⟩ := get_c hL
    have hL4 := set_e (set_a (set_p hL rp) 0) 0
    obtain ⟨d0, d1, d2, -⟩ := get_c hL4
    go_wp2
    show Leaves _ _ _ _ _ .returning _
    refine leaves_cons (f := 87) (args := #[.pointer (some ⟨w.heap.size, 0, none⟩), .pointer (some ⟨w.heap.size + 1, 0, none⟩), .pointer (some ⟨w.heap.size + 1 + 1, 0, none⟩)]) (by simp) (by simp [go_sem]) ?_
    refine (qcatch_idle w.heap.size _).mono ?_
    rintro e1 u8 w8 ⟨rfl, rfl, rfl⟩
    simp [Leaves, settle, results, Tryz.results43, go_sem, d0, d1, d2]
    exact hL4.below
end Go.Proofs.YtehpneojiinmdaaGreatDoor
namespace Go.Proofs.YtehpneojiinmdaaGreatDoor
open Go.RowKit Go.Cal
theorem ptext_any (id mode : Int) (l : List UInt8) (hl : l.length ≤ 1099511627776) (w : World) (hW : VaW w) :
    Calls Tryz.prog 43 #[.int .i64 id, .int .i64 mode, .string (strL l)] w fun e w' => e = .returned (.tuple #[.int .u64 (parV id mode l).1, .int .i64 (parV id mode l).2.1, .int .i64 (parV id mode l).2.2]) ∧ Below w.heap.size w w' := by
  by_cases hid : id < 1 ∨ 15 ≤ id
  · have hE : roundE id mode = 3 := by unfold roundE; rw [if_pos hid]
    have hV : parV id mode l = (0, 0, 3) := by unfold parV; rw [if_pos (by rw [hE]; decide), hE]
    rw [hV]
    exact parse_form id mode (strL l) hid w
  · have h1 : 1 ≤ id := by omega
    have h2 : id < 15 := by omega
    by_cases hm : mode ≠ 1 ∧ mode ≠ 2
    · have hE : roundE id mode = 1 := by unfold roundE; rw [if_neg hid, if_pos hm]
      have hV : parV id mode l = (0, 0, 1) := by unfold parV; rw [if_pos (by rw [hE]; decide), hE]
      rw [hV]
      exact parse_mode id mode (strL l) h1 h2 (by simp [hm.1]) (by simp [hm.2]) w hW
    · have hE : roundE id mode = 0 := by unfold roundE; rw [if_neg hid, if_neg hm]
      cases ht : (textS l).1 with
      | false =>
        have hV : parV id mode l = (0, (((textS l).2 : Nat) : Int), 2) := by unfold parV; rw [if_neg (by rw [hE]; decide), if_pos ht]
        rw [hV]
        exact parse_bad id mode l hl h1 h2 hm ht w hW
      | true =>
        have hV : parV id mode l = parI id mode (textV 1125899906842624 l) := by unfold parV; rw [if_neg (by rw [hE]; decide), if_neg (by rw [ht]; decide)]
        rw [hV]
        have hit := text_item 1125899906842624 l
        obtain ⟨it, hitE⟩ : ∃ it, textV 1125899906842624 l = it := ⟨_, rfl⟩
        rw [hitE] at hit ⊢
        unfold parI
        rcases hit with ⟨hk, hok⟩ | hk
        · rw [if_pos hk]
          exact parse_num id mode l hl h1 h2 hm ht it hitE hk hok w hW
        · have hk1 : it.kind ≠ 1 := by omega
          rw [if_neg hk1]
          cases hb : wordB id it.kind it.neg with
          | true =>
            rw [if_pos rfl]
            exact parse_word id mode l hl h1 h2 hm ht it hitE (by omega) hb w hW
          | false =>
            rw [if_neg (by decide)]
            exact parse_noword id mode l hl h1 h2 hm ht it hitE (by omega) hb w hW
end Go.Proofs.YtehpneojiinmdaaGreatDoor
namespace Go.Proofs.YtehpneojiinmdaaGreatDoor
open Go.RowKit Go.Cal
theorem ptext_is (id mode : Int) (l : List UInt8) (s : ByteArray) (p a e : Int) (hs : strL l = s) (hl : l.length ≤ 1000) (hv : parV id mode l = (p, a, e)) {w : World} (hW : VaW w) :
    Calls Tryz.prog 43 #[.int .i64 id, .int .i64 mode, .string s] w fun x w' => x = .returned (.tuple #[.int .u64 p, .int .i64 a, .int .i64 e]) ∧ Below w.heap.size w w' := by
  subst hs
  have := ptext_any id mode l (by omega) w hW
  rw [hv] at this
  exact this
end Go.Proofs.YtehpneojiinmdaaGreatDoor
namespace Go.Proofs.YtehpneojiinmdaaGreatDoor
open Go.RowKit Go.Cal
theorem tw1 : parV 14 2 [48, 46, 49] = (4591870180066957722, 0, 0) := by decide +kernel
theorem tw2 : parV 1 1 [45, 49, 101, 57, 57] = (129, 0, 0) := by decide +kernel
theorem tw3 : priT 14 4591870180066957722 = [48, 46, 49] := by decide +kernel
theorem tw4 : fitsV 14 4591870180066957722 = 0 := by decide +kernel
theorem tprint_lit {id p E : Int} {S : List UInt8} (h : priT id p = S) (he : fitsV id p = E) (hp0 : 0 ≤ p) (hp1 : p < 18446744073709551616) (w : World) (hW : PrW w) :
    Calls Tryz.prog 38 #[.int .i64 id, .int .u64 p] w fun e w' => e = .returned (.tuple #[.string (strL S), .int .i64 E]) ∧ Below w.heap.size w w' := h ▸ he ▸ print_any id p hp0 hp1 w hW
set_option maxRecDepth 100000 in
set_option maxHeartbeats 4000000 in
theorem works_any (w : World) (hW : PrW w) : Calls Tryz.prog 10 #[] w fun e w' => e = .returned (.bool true) ∧ Below w.heap.size w w' := by
  have hL := LiveP.start w
  have e4 : ((strL [48, 46, 49]).toList == [48, 46, 49]) = true := by decide +kernel
  go_enter Tryz.func10, Tryz.ntmps10
  go_wp2_with fail; refine ((ptext_is 14 2 [48, 46, 49] _ _ _ _ rfl (by decide) tw1 hW.va)).mono ?_; rintro ex w1 ⟨rfl, hb⟩; replace hL := hL.go hb; clear hb
  go_wp2_with fail; refine ((tprint_lit tw3 tw4 (by decide) (by decide) _ (hW.below hL.below))).mono ?_; rintro ex w1 ⟨rfl, hb⟩; replace hL := hL.go hb; clear hb
  go_wp2_with fail; refine ((ptext_is 1 1 [45, 49, 101, 57, 57] _ _ _ _ rfl (by decide) tw2 (hW.below hL.below).va)).mono ?_; rintro ex w1 ⟨rfl, hb⟩; replace hL := hL.go hb; clear hb
  go_wp2
  go_ret
  exact ⟨rfl, hL.below⟩
end Go.Proofs.YtehpneojiinmdaaGreatDoor
