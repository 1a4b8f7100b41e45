/- Parse: what number a text tells, walked. Conditions: none. -/
/- Parse: what is thrown is caught. Conditions: none. -/
/- Plain: what Parse tells. Conditions: none. -/
/- Parse, walked. Conditions: the variables that values read. -/
/- Parse, walked: behind the scan. Conditions: the variables that values read. -/
import Derived.Test.YtncfbleeidjflaaGreatDoorSu32
import Derived.Defers
import Derived.Recover
import Derived.Tactics2
import Derived.Test.YtncfbleeidjflaaGreatDoorSu03
import Derived.Test.YtncfbleeidjflaaGreatDoorSu19
namespace Go.Proofs.YtncfbleeidjflaaGreatDoor
open Go.RowKit Go.Cal
theorem xdec_s {w : World} {d : Value} {m N : Nat} (neg : Bool) (k : Int) (h : IsN w d m N) (hm : m ≤ 1048576) (hN : N < 18446744073709551616 ^ 128) (hk : -5000 ≤ k ∧ k ≤ 5000) :
    Calls Tryz.prog 97 #[.bool neg, d, .int .i64 k] w fun e w' => ∃ A5 n5 c5, e = .returned (.tuple #[.agg #[.bool neg, .slice A5 n5 c5, .int .i64 k, .int .i64 k], .bool true]) ∧ IsT w' (.slice A5 n5 c5) 128 N ∧ Below w.heap.size w w' := by
  refine (xdec_yes neg k h hm hN hk).mono ?_
  rintro e w' ⟨v, rfl, hv, hb⟩
  obtain ⟨A, c, zs, rfl, -⟩ := id hv
  exact ⟨A, _, c, rfl, hv, hb⟩
set_option maxRecDepth 100000 in
set_option maxHeartbeats 1000000 in
theorem number_near (kd : Int) (neg cut : Bool) {A : Option Addr} {n c m D : Nat} (k : Int) {w : World} (h : IsN w (.slice A n c) m D) (hm : m ≤ 1048576) (hN : D < 18446744073709551616 ^ 128) (hk : -5000 ≤ k ∧ k ≤ 5000) :
    Calls Tryz.prog 37 #[.agg #[.int .i64 kd, .bool neg, .slice A n c, .int .i64 k, .int .i64 0, .bool cut]] w fun e w' => ∃ A5 n5 c5, e = .returned (.agg #[.bool neg, .slice A5 n5 c5, .int .i64 k, .int .i64 k]) ∧ IsT w' (.slice A5 n5 c5) 128 D ∧ Below w.heap.size w w' := by
  have hb0 : Below w.heap.size w ((w.alloc (.cells #[.int .i64 kd, .bool neg, .slice A n c, .int .i64 k, .int .i64 0, .bool cut] 63)).alloc (.cells #[.bool false, .slice none 0 0, .int .i64 0, .int .i64 0] 71)) := ((Below.refl _ _).alloc (Nat.le_refl _) _).alloc (by simp) _
  have hd := Lib.hid (xdec_s neg k (h.below hb0) hm hN hk)
  have hp0 : pBlk (w.heap.size + 1) #[.bool false, .slice none 0 0, .int .i64 0, .int .i64 0] 71 ((w.alloc (.cells #[.int .i64 kd, .bool neg, .slice A n c, .int .i64 k, .int .i64 0, .bool cut] 63)).alloc (.cells #[.bool false, .slice none 0 0, .int .i64 0, .int .i64 0] 71)) := by
    have := pBlk_made (w.alloc (.cells #[.int .i64 kd, .bool neg, .slice A n c, .int .i64 k, .int .i64 0, .bool cut] 63)) #[.bool false, .slice none 0 0, .int .i64 0, .int .i64 0] 71
    rw [show (w.alloc (.cells #[.int .i64 kd, .bool neg, .slice A n c, .int .i64 k, .int .i64 0, .bool cut] 63)).heap.size = w.heap.size + 1 by simp] at this
    exact this
  replace hN := Lib.hid hN
  clear h
  go_enter Tryz.func37, Tryz.ntmps37
  go_wp2_with fail
  refine hd.out.mono ?_
  rintro e w1 ⟨A5, n5, c5, rfl, hv, hb⟩
  have hz := hb.size
  simp at hz
  have hB : Below w.heap.size w w1 := hb0.trans (hb.mono (by simp; omega))
  have hp1 := pBlk_st _ _ _ _ _ (pBlk_st _ _ _ _ _ hp0 hb) ((Below.refl _ _).alloc (Nat.le_refl _) (.cells #[.bool false, .slice none 0 0, .int .i64 0, .int .i64 0] 71))
  have hv0 := hv.below ((Below.refl _ _).alloc (Nat.le_refl _) (.cells #[.bool false, .slice none 0 0, .int .i64 0, .int .i64 0] 71))
  go_wp2_with (first
    | ((with_reducible show wpList _ _ _ (Oper.mk _ (Op.store 71 _ _) _ _ _ _ :: _) _ _); refine wpList_store_keep _ rfl 71 _ _ rfl w1.heap.size #[.bool neg, .slice A5 n5 c5, .int .i64 k, .int .i64 k] #[.bool false, .slice none 0 0, .int .i64 0, .int .i64 0] 71 rfl rfl (pBlk_made w1 #[.bool false, .slice none 0 0, .int .i64 0, .int .i64 0] 71) exact_size rfl (by simp [Value.oneCell']) noU ?_; intro w2 hp2 hb2 hk2; obtain ⟨r0, r1, r2, r3⟩ := cells4 hp2; have hq := pBlk_keep hp1 hb2 (by omega); have hv2 := hk2 _ _ _ hv0)
    | ((with_reducible show wpList _ _ _ (Oper.mk _ (Op.store 71 _ _) _ _ _ _ :: _) _ _); refine wpList_store_keep _ rfl 71 _ _ rfl (w.heap.size + 1) #[.bool neg, .slice A5 n5 c5, .int .i64 k, .int .i64 k] #[.bool false, .slice none 0 0, .int .i64 0, .int .i64 0] 71 rfl rfl hq exact_size rfl (by simp [Value.oneCell']) noU ?_; intro w3 hp3 hb3 hk3; obtain ⟨s0, s1, s2, s3⟩ := cells4 hp3; have hv3 := hk3 _ _ _ hv2))
  have hB3 : Below w.heap.size w w3 := ((hB.alloc hB.size _).trans (hb2.mono hB.size)).trans (hb3.mono (Nat.le_succ _))
  exact bodyPost_ret (v := .agg #[.bool neg, .slice A5 n5 c5, .int .i64 k, .int .i64 k]) (by simp [results, Tryz.results37, go_sem, s0, s1, s2, s3]) rfl ⟨A5, n5, c5, rfl, hv3, hB3⟩
theorem pBlk.othX {g g' : Nat} {cs : Array Value} {t : TypeId} {w : World} (h : pBlk g cs t w) (hne : g ≠ g') (i : Nat) (u : Value) : pBlk g cs t (w.setCell ⟨g', i, none⟩ u) := by
  unfold pBlk at *
  simp only [World.setCell, Array.getElem?_modify]
  rw [if_neg (fun e => hne e.symm)]
  exact h
set_option maxRecDepth 100000 in
set_option maxHeartbeats 2000000 in
theorem number_far (kd : Int) (neg cut : Bool) (A : Option Addr) (n c : Nat) (k big : Int) (hbg : big = 1 ∨ big = -1) (w : World) :
    Calls Tryz.prog 37 #[.agg #[.int .i64 kd, .bool neg, .slice A n c, .int .i64 k, .int .i64 big, .bool cut]] w fun e w' => ∃ A5 n5 c5, e = .returned (.agg #[.bool neg, .slice A5 n5 c5, .int .i64 (big * 1000), .int .i64 (big * 1000)]) ∧ IsT w' (.slice A5 n5 c5) 128 1 ∧ Below w.heap.size w w' := by
  have hb0 : Below w.heap.size w ((w.alloc (.cells #[.int .i64 kd, .bool neg, .slice A n c, .int .i64 k, .int .i64 big, .bool cut] 63)).alloc (.cells #[.bool false, .slice none 0 0, .int .i64 0, .int .i64 0] 71)) := ((Below.refl _ _).alloc (Nat.le_refl _) _).alloc (by simp) _
  have hp0 : pBlk (w.heap.size + 1) #[.bool false, .slice none 0 0, .int .i64 0, .int .i64 0] 71 ((w.alloc (.cells #[.int .i64 kd, .bool neg, .slice A n c, .int .i64 k, .int .i64 big, .bool cut] 63)).alloc (.cells #[.bool false, .slice none 0 0, .int .i64 0, .int .i64 0] 71)).drew := by
    have := pBlk_st _ _ _ _ _ (pBlk_made (w.alloc (.cells #[.int .i64 kd, .bool neg, .slice A n c, .int .i64 k, .int .i64 big, .bool cut] 63)) #[.bool false, .slice none 0 0, .int .i64 0, .int .i64 0] 71) (Below.refl _ _).drew
    rw [show (w.alloc (.cells #[.int .i64 kd, .bool neg, .slice A n c, .int .i64 k, .int .i64 big, .bool cut] 63)).heap.size = w.heap.size + 1 by simp] at this
    exact this
  have hf0 : pBlk w.heap.size #[.int .i64 kd, .bool neg, .slice A n c, .int .i64 k, .int .i64 big, .bool cut] 63 ((w.alloc (.cells #[.int .i64 kd, .bool neg, .slice A n c, .int .i64 k, .int .i64 big, .bool cut] 63)).alloc (.cells #[.bool false, .slice none 0 0, .int .i64 0, .int .i64 0] 71)).drew := pBlk_st _ _ _ _ _ (pBlk_st _ _ _ _ _ (pBlk_made w #[.int .i64 kd, .bool neg, .slice A n c, .int .i64 k, .int .i64 big, .bool cut] 63) ((Below.refl _ _).alloc (Nat.le_refl _) (.cells #[.bool false, .slice none 0 0, .int .i64 0, .int .i64 0] 71))) (Below.refl _ _).drew
  have hof := Lib.hid fun w' => nof_x w' 1 (by decide)
  have hbn : (big != 0) = true := by rcases hbg with rfl | rfl <;> rfl
  have hl1 : -1 ≤ big := by omega
  have hl2 : big ≤ 1 := by omega
  have hwr := Lib.hid (show IntKind.i64.wrap (big * 1000) = big * 1000 by rw [IntKind.wrap_i64]; omega)
  go_enter Tryz.func37, Tryz.ntmps37
  go_wp2_with fail
  go_region_with (go_at_call 96; refine (hof.out _).mono ?_; rintro e w2 ⟨A2, n2, c2, rfl, hv2, hb2⟩; obtain ⟨hc2, hf2⟩ := bcell hb2)
  all_goals
    rw [hwr.out]
    have hno : ∀ (a b c d e f : Value), (∀ n, a ≠ .int .u64 n) → (∀ n, b ≠ .int .u64 n) → (∀ n, c ≠ .int .u64 n) → (∀ n, d ≠ .int .u64 n) → (∀ n, e ≠ .int .u64 n) → (∀ n, f ≠ .int .u64 n) → ∀ x ∈ (#[a, b, c, d, e, f] : Array Value).toList, ∀ n, x ≠ .int .u64 n := by
      intro a b c d e f ha hb hc hd he hf x hx
      simp at hx
      rcases hx with rfl | rfl | rfl | rfl | rfl | rfl <;> assumption
    have hf2' := pBlk_st _ _ _ _ _ hf0 hb2
    have hp2 := pBlk_st _ _ _ _ _ hp0 hb2
    have hvf := IsT.apartX (i := 3) (u := .int .i64 (big * 1000)) (IsT.apartX (i := 2) (u := .slice A2 n2 c2) hv2 hf2' (hno _ _ _ _ _ _ (by simp) (by simp) (by simp) (by simp) (by simp) (by simp))) (hf2'.setX 2 (.slice A2 n2 c2)) (hno _ _ _ _ _ _ (by simp) (by simp) (by simp) (by simp) (by simp) (by simp))
    have hff := (hf2'.setX 2 (.slice A2 n2 c2)).setX 3 (.int .i64 (big * 1000))
    have hpf := (hp2.othX (g' := w.heap.size) (by omega) 2 (.slice A2 n2 c2)).othX (g' := w.heap.size) (by omega) 3 (.int .i64 (big * 1000))
    have hBw : Below w.heap.size w w2 := hb0.trans ((Below.refl _ _).drew.trans (hb2.mono (by simp; omega)))
    have hBf := (hBw.setCell (p := ⟨w.heap.size, 2, none⟩) (Nat.le_refl _) (.slice A2 n2 c2)).setCell (p := ⟨w.heap.size, 3, none⟩) (Nat.le_refl _) (.int .i64 (big * 1000))
    generalize ((w2.setCell ⟨w.heap.size, 2, none⟩ (.slice A2 n2 c2)).setCell ⟨w.heap.size, 3, none⟩ (.int .i64 (big * 1000))) = w3 at hvf hff hpf hBf ⊢
    have y1 := pBlk.cell hff 1 (.bool neg) rfl
    have y2 := pBlk.cell hff 2 (.slice A2 n2 c2) rfl
    have y3 := pBlk.cell hff 3 (.int .i64 (big * 1000)) rfl
    have hd := Lib.hid (xdec_s neg (big * 1000) (IsT.isN hvf) (by decide) (by decide) ⟨by omega, by omega⟩)
    clear hno hf2' hp2 hBw hc2 hf2 hf0 hp0 hv2 hb2 hff
    go_wp2_with fail
    refine hd.out.mono ?_
    rintro e w4 ⟨A5, n5, c5, rfl, hv, hb⟩
    have hz := hb.size
    have hzl : w.heap.size + 1 < w3.heap.size := by
      have := hpf
      unfold pBlk at this
      exact (Array.getElem?_eq_some_iff.1 this).1
    have hB : Below w.heap.size w w4 := hBf.trans (hb.mono (by omega))
    have hp1 := pBlk_st _ _ _ _ _ (pBlk_st _ _ _ _ _ hpf hb) ((Below.refl _ _).alloc (Nat.le_refl _) (.cells #[.bool false, .slice none 0 0, .int .i64 0, .int .i64 0] 71))
    have hv0 := hv.below ((Below.refl _ _).alloc (Nat.le_refl _) (.cells #[.bool false, .slice none 0 0, .int .i64 0, .int .i64 0] 71))
    clear y1 y2 y3 hd
    go_wp2_with (first
      | ((with_reducible show wpList _ _ _ (Oper.mk _ (Op.store 71 _ _) _ _ _ _ :: _) _ _); refine wpList_store_keep _ rfl 71 _ _ rfl w4.heap.size #[.bool neg, .slice A5 n5 c5, .int .i64 (big * 1000), .int .i64 (big * 1000)] #[.bool false, .slice none 0 0, .int .i64 0, .int .i64 0] 71 rfl rfl (pBlk_made w4 #[.bool false, .slice none 0 0, .int .i64 0, .int .i64 0] 71) exact_size rfl (by simp [Value.oneCell']) noU ?_; intro w5 hp2 hb2 hk2; obtain ⟨r0, r1, r2, r3⟩ := cells4 hp2; have hq := pBlk_keep hp1 hb2 (by omega); have hv2 := hk2 _ _ _ hv0)
      | ((with_reducible show wpList _ _ _ (Oper.mk _ (Op.store 71 _ _) _ _ _ _ :: _) _ _); refine wpList_store_keep _ rfl 71 _ _ rfl (w.heap.size + 1) #[.bool neg, .slice A5 n5 c5, .int .i64 (big * 1000), .int .i64 (big * 1000)] #[.bool false, .slice none 0 0, .int .i64 0, .int .i64 0] 71 rfl rfl hq exact_size rfl (by simp [Value.oneCell']) noU ?_; intro w6 hp3 hb3 hk3; obtain ⟨s0, s1, s2, s3⟩ := cells4 hp3; have hv3 := hk3 _ _ _ hv2))
    have hB3 : Below w.heap.size w w6 := ((hB.alloc hB.size _).trans (hb2.mono hB.size)).trans (hb3.mono (Nat.le_succ _))
    exact bodyPost_ret (v := .agg #[.bool neg, .slice A5 n5 c5, .int .i64 (big * 1000), .int .i64 (big * 1000)]) (by simp [results, Tryz.results37, go_sem, s0, s1, s2, s3]) rfl ⟨A5, n5, c5, rfl, hv3, hB3⟩
end Go.Proofs.YtncfbleeidjflaaGreatDoor
namespace Go.Proofs.YtncfbleeidjflaaGreatDoor
open Go.RowKit Go.Cal
theorem qassert (a b : Int) (xt : TypeId) (w : World) : (Instr.typeAssert (.iface 55 (.agg #[.int .i64 a, .int .i64 b])) xt 55 true).run Tryz.prog w = .ok (.tuple #[.agg #[.int .i64 a, .int .i64 b], .bool true]) w := by
  unfold Instr.typeAssert
  simp [run_underlying Tryz.underlying55, Sem.run_bind, Sem.run_pure]
theorem cell_ltX {w : World} {g : Nat} {cs : Array Value} {t : TypeId} (h : pBlk g cs t w) : g < w.heap.size := by
  unfold pBlk at h
  exact (Array.getElem?_eq_some_iff.1 h).1
set_option maxRecDepth 100000 in
theorem qcatch_idle (g : Nat) (w : World) :
    CallsD Tryz.prog 31 #[.pointer (some ⟨g, 0, none⟩), .pointer (some ⟨g + 1, 0, none⟩), .pointer (some ⟨g + 2, 0, none⟩)] .returning w fun e u' w' => e = .returned (.tuple #[]) ∧ u' = .returning ∧ w' = w := by
  refine callsD_of_wpS Tryz.func31 rfl fun c₀ cs hu => ?_
  apply wpS_seq
  apply wpS_region
  simp [wpOpsS, go_sem, recoverD, hu, Tryz.ntmps31, Exit.thenS]
  apply wpS_seq
  apply wpS_region
  simp [wpOpsS, go_sem, Exit.thenS]
  refine wpS_cond (t := false) (by simp [Act.eval, Array.replicate]) ?_
  simp only [Bool.false_eq_true, if_false]
  refine wpS_of_wp (wp_skip ?_)
  cases c₀
  simp_all [bodyPostS, results, Tryz.results31]
set_option maxRecDepth 100000 in
set_option maxHeartbeats 1000000 in
theorem qcatch_thrown (g : Nat) (a b : Int) (older : List PanicEntry) (w : World) {x y z : Value} (p0 : pBlk g #[x] 22 w) (p1 : pBlk (g + 1) #[y] 3 w) (p2 : pBlk (g + 2) #[z] 24 w) :
    CallsD Tryz.prog 31 #[.pointer (some ⟨g, 0, none⟩), .pointer (some ⟨g + 1, 0, none⟩), .pointer (some ⟨g + 2, 0, none⟩)] (.panicking ({ v := .iface 55 (.agg #[.int .i64 a, .int .i64 b]), recovered := false } :: older)) w fun e u' w' =>
      e = .returned (.tuple #[]) ∧ u' = .panicking ({ v := .iface 55 (.agg #[.int .i64 a, .int .i64 b]), recovered := true } :: older) ∧ pBlk g #[.int .u64 0] 22 w' ∧ pBlk (g + 1) #[.int .i64 a] 3 w' ∧ pBlk (g + 2) #[.int .i64 b] 24 w' ∧ Below g w w' := by
  have hta := qassert a b
  have c0 := p0.cell 0 _ rfl
  have c1 := p1.cell 0 _ rfl
  have c2 := p2.cell 0 _ rfl
  have f0 := p0.free 0
  have f1 := p1.free 0
  have f2 := p2.free 0
  have hg := cell_ltX p0
  have he := cell_ltX p1
  have he2 := cell_ltX p2
  refine callsD_of_wpS Tryz.func31 rfl fun c₀ cs hu => ?_
  apply wpS_seq
  apply wpS_region
  simp [wpOpsS, go_sem, recoverD, hu, Tryz.ntmps31, Exit.thenS]
  apply wpS_seq
  apply wpS_region
  simp [wpOpsS, go_sem, Exit.thenS]
  refine wpS_cond (t := true) (by simp [Act.eval, Array.replicate]) ?_
  simp only [if_true]
  refine wpS_of_wp ?_
  simp [Array.replicate]
  go_wp2
  go_region
  go_wp2
  simp [bodyPostS, results, Tryz.results31]
  have hB := (((Below.refl g w).setCell (p := ⟨g, 0, none⟩) (Nat.le_refl _) (.int .u64 0)).setCell (p := ⟨g + 1, 0, none⟩) (Nat.le_succ _) (.int .i64 a)).setCell (p := ⟨g + 2, 0, none⟩) (Nat.le_add_right _ _) (.int .i64 b)
  have k0 := ((p0.setX 0 (.int .u64 0)).othX (g' := g + 1) (by omega) 0 (.int .i64 a)).othX (g' := g + 2) (by omega) 0 (.int .i64 b)
  have k1 := ((p1.othX (g' := g) (by omega) 0 (.int .u64 0)).setX 0 (.int .i64 a)).othX (g' := g + 2) (by omega) 0 (.int .i64 b)
  have k2 := ((p2.othX (g' := g) (by omega) 0 (.int .u64 0)).othX (g' := g + 1) (by omega) 0 (.int .i64 a)).setX 0 (.int .i64 b)
  have hD := fun W : World => ((Below.refl W.heap.size W).alloc (Nat.le_refl _) (.cells #[.int .i64 a, .int .i64 b] 55)).drew
  refine ⟨pBlk_st _ _ _ _ _ k0 (hD _), pBlk_st _ _ _ _ _ k1 (hD _), pBlk_st _ _ _ _ _ k2 (hD _), hB.trans ((hD _).mono ?_)⟩
  simp [World.setCell]
  omega
end Go.Proofs.YtncfbleeidjflaaGreatDoor
namespace Go.Proofs.YtncfbleeidjflaaGreatDoor
open Go.RowKit Go.Cal
theorem num_bigX {N n : Nat} (h : n ≤ 2000) (hN : N < 10 ^ n) : N < 18446744073709551616 ^ 128 := by
  have hx : ∀ e f : Nat, n ≤ e → 4 * e ≤ 64 * f → N < 18446744073709551616 ^ f := by
    intro e f h1 hf
    have h1 : 10 ^ n ≤ 10 ^ e := Nat.pow_le_pow_right (by decide) h1
    have h3 : 10 ^ e ≤ 16 ^ e := Nat.pow_le_pow_left (by decide) _
    have h4 : (16 : Nat) ^ e = 2 ^ (4 * e) := by rw [Nat.pow_mul]
    have h5 : (18446744073709551616 : Nat) ^ f = 2 ^ (64 * f) := by rw [Nat.pow_mul]
    have h6 : 2 ^ (4 * e) ≤ 2 ^ (64 * f) := Nat.pow_le_pow_right (by decide) hf
    omega
  exact hx 2000 128 h (by decide)
/-- A number that is told is within what may be. -/
structure ItemOk (it : Cal.Item) : Prop where
  big : it.big = 0 ∨ it.big = 1 ∨ it.big = -1
  num : it.big = 0 → it.d < 18446744073709551616 ^ 128 ∧ -5000 ≤ it.k ∧ it.k ≤ 5000
theorem item_ok (neg : Bool) (ds : List UInt8) (k : Int) (hd : ∀ c ∈ ds, isDig c = true) : ItemOk (itemV neg ds k) := by
  have ha : ∀ c ∈ trR (trL ds), isDig c = true := fun c hc => hd c ((trL_suffix ds).mem ((trR_prefix _).mem hc))
  unfold itemV
  simp only
  generalize trR (trL ds) = b at ha ⊢
  generalize k + ((trL ds).length - (b.length : Int)) = k1
  split
  · exact ⟨.inl rfl, fun _ => ⟨show 0 < (18446744073709551616 : Nat) ^ 128 by decide, show (-5000 : Int) ≤ 0 by decide, show (0 : Int) ≤ 5000 by decide⟩⟩
  · split
    · exact ⟨.inr (.inl rfl), fun h => absurd (show (1 : Int) = 0 from h) (by decide)⟩
    · split
      · exact ⟨.inr (.inr rfl), fun h => absurd (show (-1 : Int) = 0 from h) (by decide)⟩
      · split
        · rename_i h1 h2 h3 h4
          refine ⟨.inl rfl, fun _ => ⟨?_, by simp only; omega, by simp only; omega⟩⟩
          have hl : (b.take 1990 ++ [49]).length = 1991 := by simp; omega
          have := numV_lt (b.take 1990 ++ [49]) (fun c hc => by
            rcases List.mem_append.1 hc with h | h
            · exact ha c (List.mem_of_mem_take h)
            · rw [List.mem_singleton.1 h]; rfl)
          rw [hl] at this
          exact num_bigX (by decide) this
        · rename_i h1 h2 h3 h4
          refine ⟨.inl rfl, fun _ => ⟨?_, by simp only; omega, by simp only; omega⟩⟩
          exact num_bigX (by omega) (numV_lt b ha)
theorem body_item (C : Nat) (neg : Bool) (t : List UInt8) : (bodyV C neg t).neg = neg ∧ (((bodyV C neg t).kind = 1 ∧ ItemOk (bodyV C neg t)) ∨ (bodyV C neg t).kind = 2 ∨ (bodyV C neg t).kind = 3 ∨ (bodyV C neg t).kind = 4) := by
  have hw : wordK t = 0 ∨ wordK t = 2 ∨ wordK t = 3 ∨ wordK t = 4 := by
    unfold wordK
    by_cases a : t = wINF
    · rw [if_pos a]; exact .inr (.inl rfl)
    · rw [if_neg a]
      by_cases b : t = wNAN
      · rw [if_pos b]; exact .inr (.inr (.inl rfl))
      · rw [if_neg b]
        by_cases c : t = wNAR
        · rw [if_pos c]; exact .inr (.inr (.inr rfl))
        · rw [if_neg c]; exact .inl rfl
  unfold bodyV
  by_cases h : wordK t ≠ 0
  · rw [if_pos h]
    refine ⟨rfl, .inr ?_⟩
    rcases hw with h1 | h1 | h1 | h1
    · exact absurd h1 h
    · exact .inl h1
    · exact .inr (.inl h1)
    · exact .inr (.inr h1)
  · rw [if_neg h]
    have hk : (itemV neg (numD t) (expV C (numR t) - (numB t : Int))).kind = 1 ∧ (itemV neg (numD t) (expV C (numR t) - (numB t : Int))).neg = neg := by
      unfold itemV
      simp only
      repeat' split
      all_goals exact ⟨rfl, rfl⟩
    exact ⟨hk.2, .inl ⟨hk.1, item_ok _ _ _ (numD_digs t)⟩⟩
theorem text_item (C : Nat) (l : List UInt8) : ((textV C l).kind = 1 ∧ ItemOk (textV C l)) ∨ (textV C l).kind = 2 ∨ (textV C l).kind = 3 ∨ (textV C l).kind = 4 := by
  unfold textV
  split
  · exact (body_item C true _).2
  · exact (body_item C false _).2
/-- The number of a text, as digits and a power. -/
def numN (it : Cal.Item) : Nat := if it.big = 0 then it.d else 1
def numX (it : Cal.Item) : Int := if it.big = 0 then it.k else it.big * 1000
/-- What Parse tells. -/
def parI (id mode : Int) (it : Cal.Item) : Int × Int × Int :=
  if it.kind = 1 then (roundP id mode it.neg (exP (numN it) (numX it) (numX it)) (exQ (numX it) (numX it)), 0, 0)
  else if wordB id it.kind it.neg = true then (wordP id it.kind it.neg, 0, 0) else (0, if it.neg = true then 1 else 0, 5)
def parV (id mode : Int) (l : List UInt8) : Int × Int × Int :=
  if roundE id mode ≠ 0 then (0, 0, roundE id mode)
  else if (textS l).1 = false then (0, ((textS l).2 : Nat), 2)
  else parI id mode (textV 1125899906842624 l)
end Go.Proofs.YtncfbleeidjflaaGreatDoor
namespace Go.Proofs.YtncfbleeidjflaaGreatDoor
open Go.RowKit Go.Cal
theorem parse_start (w : World) : LiveP w (((w.alloc (.cells #[.int .u64 0] 22)).alloc (.cells #[.int .i64 0] 3)).alloc (.cells #[.int .i64 0] 24)) [pBlk (w.heap.size + 1 + 1) #[.int .i64 0] 24, pBlk (w.heap.size + 1) #[.int .i64 0] 3, pBlk w.heap.size #[.int .u64 0] 22] := by
  have h1 := ((LiveP.start w).go ((Below.refl _ _).alloc (Nat.le_refl _) (.cells #[.int .u64 0] 22))).put (pBlk_st _ _ _) (pBlk_made w #[.int .u64 0] 22)
  have a2 := pBlk_made (w.alloc (.cells #[.int .u64 0] 22)) #[.int .i64 0] 3
  rw [show (w.alloc (.cells #[.int .u64 0] 22)).heap.size = w.heap.size + 1 by simp] at a2
  have h2 := (h1.go ((Below.refl _ _).alloc (Nat.le_refl _) (.cells #[.int .i64 0] 3))).put (pBlk_st _ _ _) a2
  have a3 := pBlk_made ((w.alloc (.cells #[.int .u64 0] 22)).alloc (.cells #[.int .i64 0] 3)) #[.int .i64 0] 24
  rw [show ((w.alloc (.cells #[.int .u64 0] 22)).alloc (.cells #[.int .i64 0] 3)).heap.size = w.heap.size + 1 + 1 by simp] at a3
  exact (h2.go ((Below.refl _ _).alloc (Nat.le_refl _) (.cells #[.int .i64 0] 24))).put (pBlk_st _ _ _) a3
section
variable {w W : World} {p a e : Int}
theorem set_p (h : LiveP w W [pBlk (w.heap.size + 1 + 1) #[.int .i64 e] 24, pBlk (w.heap.size + 1) #[.int .i64 a] 3, pBlk w.heap.size #[.int .u64 p] 22]) (u : Int) : LiveP w (W.setCell ⟨w.heap.size, 0, none⟩ (.int .u64 u)) [pBlk (w.heap.size + 1 + 1) #[.int .i64 e] 24, pBlk (w.heap.size + 1) #[.int .i64 a] 3, pBlk w.heap.size #[.int .u64 u] 22] := by
  have q0 := h.get (P := pBlk w.heap.size #[.int .u64 p] 22) (by repeat (first | exact List.mem_cons_self | apply List.mem_cons_of_mem))
  have q1 := h.get (P := pBlk (w.heap.size + 1) #[.int .i64 a] 3) (by repeat (first | exact List.mem_cons_self | apply List.mem_cons_of_mem))
  have q2 := h.get (P := pBlk (w.heap.size + 1 + 1) #[.int .i64 e] 24) (by repeat (first | exact List.mem_cons_self | apply List.mem_cons_of_mem))
  exact (((⟨h.below.setCell (p := ⟨w.heap.size, 0, none⟩) (Nat.le_refl _) _, fun P hP => by simp at hP⟩ : LiveP w _ []).put (pBlk_st _ _ _) (q0.setX 0 (.int .u64 u))).put (pBlk_st _ _ _) (q1.othX (g' := w.heap.size) (by omega) 0 (.int .u64 u))).put (pBlk_st _ _ _) (q2.othX (g' := w.heap.size) (by omega) 0 (.int .u64 u))
theorem set_a (h : LiveP w W [pBlk (w.heap.size + 1 + 1) #[.int .i64 e] 24, pBlk (w.heap.size + 1) #[.int .i64 a] 3, pBlk w.heap.size #[.int .u64 p] 22]) (u : Int) : LiveP w (W.setCell ⟨w.heap.size + 1, 0, none⟩ (.int .i64 u)) [pBlk (w.heap.size + 1 + 1) #[.int .i64 e] 24, pBlk (w.heap.size + 1) #[.int .i64 u] 3, pBlk w.heap.size #[.int .u64 p] 22] := by
  have q0 := h.get (P := pBlk w.heap.size #[.int .u64 p] 22) (by repeat (first | exact List.mem_cons_self | apply List.mem_cons_of_mem))
  have q1 := h.get (P := pBlk (w.heap.size + 1) #[.int .i64 a] 3) (by repeat (first | exact List.mem_cons_self | apply List.mem_cons_of_mem))
  have q2 := h.get (P := pBlk (w.heap.size + 1 + 1) #[.int .i64 e] 24) (by repeat (first | exact List.mem_cons_self | apply List.mem_cons_of_mem))
  exact (((⟨h.below.setCell (p := ⟨w.heap.size + 1, 0, none⟩) (Nat.le_succ _) _, fun P hP => by simp at hP⟩ : LiveP w _ []).put (pBlk_st _ _ _) (q0.othX (g' := w.heap.size + 1) (by omega) 0 (.int .i64 u))).put (pBlk_st _ _ _) (q1.setX 0 (.int .i64 u))).put (pBlk_st _ _ _) (q2.othX (g' := w.heap.size + 1) (by omega) 0 (.int .i64 u))
theorem set_e (h : LiveP w W [pBlk (w.heap.size + 1 + 1) #[.int .i64 e] 24, pBlk (w.heap.size + 1) #[.int .i64 a] 3, pBlk w.heap.size #[.int .u64 p] 22]) (u : Int) : LiveP w (W.setCell ⟨w.heap.size + 1 + 1, 0, none⟩ (.int .i64 u)) [pBlk (w.heap.size + 1 + 1) #[.int .i64 u] 24, pBlk (w.heap.size + 1) #[.int .i64 a] 3, pBlk w.heap.size #[.int .u64 p] 22] := by
  have q0 := h.get (P := pBlk w.heap.size #[.int .u64 p] 22) (by repeat (first | exact List.mem_cons_self | apply List.mem_cons_of_mem))
  have q1 := h.get (P := pBlk (w.heap.size + 1) #[.int .i64 a] 3) (by repeat (first | exact List.mem_cons_self | apply List.mem_cons_of_mem))
  have q2 := h.get (P := pBlk (w.heap.size + 1 + 1) #[.int .i64 e] 24) (by repeat (first | exact List.mem_cons_self | apply List.mem_cons_of_mem))
  exact (((⟨h.below.setCell (p := ⟨w.heap.size + 1 + 1, 0, none⟩) (Nat.le_trans (Nat.le_succ _) (Nat.le_succ _)) _, fun P hP => by simp at hP⟩ : LiveP w _ []).put (pBlk_st _ _ _) (q0.othX (g' := w.heap.size + 1 + 1) (by omega) 0 (.int .i64 u))).put (pBlk_st _ _ _) (q1.othX (g' := w.heap.size + 1 + 1) (by omega) 0 (.int .i64 u))).put (pBlk_st _ _ _) (q2.setX 0 (.int .i64 u))
theorem get_c (h : LiveP w W [pBlk (w.heap.size + 1 + 1) #[.int .i64 e] 24, pBlk (w.heap.size + 1) #[.int .i64 a] 3, pBlk w.heap.size #[.int .u64 p] 22]) : W.cell? ⟨w.heap.size, 0, none⟩ = some (.int .u64 p) ∧ W.cell? ⟨w.heap.size + 1, 0, none⟩ = some (.int .i64 a) ∧ W.cell? ⟨w.heap.size + 1 + 1, 0, none⟩ = some (.int .i64 e) ∧
    W.frozen? ⟨w.heap.size, 0, none⟩ = false ∧ W.frozen? ⟨w.heap.size + 1, 0, none⟩ = false ∧ W.frozen? ⟨w.heap.size + 1 + 1, 0, none⟩ = false ∧ w.heap.size + 1 + 1 < W.heap.size := by
  have q0 := h.get (P := pBlk w.heap.size #[.int .u64 p] 22) (by repeat (first | exact List.mem_cons_self | apply List.mem_cons_of_mem))
  have q1 := h.get (P := pBlk (w.heap.size + 1) #[.int .i64 a] 3) (by repeat (first | exact List.mem_cons_self | apply List.mem_cons_of_mem))
  have q2 := h.get (P := pBlk (w.heap.size + 1 + 1) #[.int .i64 e] 24) (by repeat (first | exact List.mem_cons_self | apply List.mem_cons_of_mem))
  exact ⟨q0.cell 0 _ rfl, q1.cell 0 _ rfl, q2.cell 0 _ rfl, q0.free 0, q1.free 0, q2.free 0, cell_ltX q2⟩
end
set_option maxRecDepth 100000 in
set_option maxHeartbeats 2000000 in
theorem parse_form (id mode : Int) (s : ByteArray) (hid : id < 1 ∨ 15 ≤ id) (w : World) :
    Calls Tryz.prog 13 #[.int .i64 id, .int .i64 mode, .string s] w fun e w' => e = .returned (.tuple #[.int .u64 0, .int .i64 0, .int .i64 3]) ∧ Below w.heap.size w w' := by
  have hmf : ∀ (fn : Fn) (first cap : Array Value) (w : World), (Instr.makeFunc fn first cap).run Tryz.prog w = .ok (.func fn first cap) w := fun _ _ _ _ => rfl
  have hfn := Lib.hid (fun w => fo_none id w hid)
  have hL := parse_start w
  clear hid
  go_enter_defers Tryz.func13, Tryz.ntmps13
  go_wp2_with fail
  refine (hfn.out _).mono ?_
  rintro e u1 ⟨rfl, hb1⟩
  replace hL := (hL.go hb1).go ((Below.refl _ _).alloc (Nat.le_refl _) (.cells #[.int .i64 0, .int .i64 0, .int .i64 0, .int .i64 0, .int .u64 0, .int .u64 0, .int .u64 0] 58))
  obtain ⟨c0, c1, c2, f0, f1, f2, hlt⟩ := get_c hL
  go_wp2_with fail
  refine (qmust_no 0 3 (by decide) _).mono ?_
  rintro e u2 ⟨rfl, rfl⟩
  replace hL := set_e hL 3
  clear c0 c1 c2 f0 f1 f2
  have p0 := hL.get (P := pBlk w.heap.size #[.int .u64 0] 22) (by repeat (first | exact List.mem_cons_self | apply List.mem_cons_of_mem))
  have p1 := hL.get (P := pBlk (w.heap.size + 1) #[.int .i64 0] 3) (by repeat (first | exact List.mem_cons_self | apply List.mem_cons_of_mem))
  have p2 := hL.get (P := pBlk (w.heap.size + 1 + 1) #[.int .i64 3] 24) (by repeat (first | exact List.mem_cons_self | apply List.mem_cons_of_mem))
  have hbl := hL.below
  clear hL
  go_wp2
  refine leaves_cons (f := 31) (args := #[.pointer (some ⟨w.heap.size, 0, none⟩), .pointer (some ⟨w.heap.size + 1, 0, none⟩), .pointer (some ⟨w.heap.size + 1 + 1, 0, none⟩)]) (by simp) (by simp [go_sem]) ?_
  refine (qcatch_thrown w.heap.size 0 3 [] _ p0 p1 p2).mono ?_
  rintro e1 u8 w8 ⟨rfl, rfl, pd0, pd1, pd2, hb8⟩
  have y0 := pd0.cell 0 _ rfl
  have y1 := pd1.cell 0 _ rfl
  have y2 := pd2.cell 0 _ rfl
  have hbf := hbl.trans hb8
  clear p0 p1 p2 pd0 pd1 pd2
  simp [Leaves, settle, results, Tryz.results13, go_sem, y0, y1, y2]
  exact hbf
set_option maxRecDepth 100000 in
set_option maxHeartbeats 2000000 in
theorem parse_mode (id mode : Int) (s : ByteArray) (h1 : 1 ≤ id) (h2 : id < 15) (m1 : (mode != 1) = true) (m2 : (mode != 2) = true) (w : World) (hW : VaW w) :
    Calls Tryz.prog 13 #[.int .i64 id, .int .i64 mode, .string s] w fun e w' => e = .returned (.tuple #[.int .u64 0, .int .i64 0, .int .i64 1]) ∧ Below w.heap.size w w' := by
  have hmf : ∀ (fn : Fn) (first cap : Array Value) (w : World), (Instr.makeFunc fn first cap).run Tryz.prog w = .ok (.func fn first cap) w := fun _ _ _ _ => rfl
  have hfo := Lib.hid (fun (W : World) (hW : VaW W) => fo_of id W hW.frm h1 h2)
  have hL := parse_start w
  go_enter_defers Tryz.func13, Tryz.ntmps13
  go_wp2_with fail
  refine (hfo.out _ (hW.below hL.below)).mono ?_
  rintro e u1 ⟨rfl, hb1⟩
  have hF := pBlk_made u1 #[.int .i64 (fK id), .int .i64 (fW id), .int .i64 (fM id), .int .i64 (fB id), .int .u64 (fT id), .int .u64 (fI id), .int .u64 (fN id)] 58
  replace hL := (hL.go hb1).go ((Below.refl _ _).alloc (Nat.le_refl _) (.cells #[.int .i64 (fK id), .int .i64 (fW id), .int .i64 (fM id), .int .i64 (fB id), .int .u64 (fT id), .int .u64 (fI id), .int .u64 (fN id)] 58))
  obtain ⟨c0, c1, c2, f0, f1, f2, hlt⟩ := get_c hL
  go_wp2_with fail
  refine (qmust_yes 0 _).mono ?_
  rintro e u2 ⟨rfl, rfl⟩
  have hgF : w.heap.size + 1 + 1 < u1.heap.size := by
    have := hb1.size
    simp at this
    omega
  replace hL := set_e hL 0
  replace hF := hF.othX (g' := w.heap.size + 1 + 1) (by omega) 0 (.int .i64 0)
  clear c0 c1 c2 f0 f1 f2 hlt hb1
  obtain ⟨W1, hW1⟩ : ∃ W1, ((u1.alloc (.cells #[.int .i64 (fK id), .int .i64 (fW id), .int .i64 (fM id), .int .i64 (fB id), .int .u64 (fT id), .int .u64 (fI id), .int .u64 (fN id)] 58)).setCell ⟨w.heap.size + 1 + 1, 0, none⟩ (.int .i64 0)) = W1 := ⟨_, rfl⟩
  rw [hW1] at hL hF ⊢
  clear hW1
  obtain ⟨gF, hgE⟩ : ∃ g, u1.heap.size = g := ⟨_, rfl⟩
  rw [hgE] at hF hgF ⊢
  clear hgE
  obtain ⟨c0, c1, c2, f0, f1, f2, hlt⟩ := get_c hL
  go_wp2_with fail
  refine (qmust_no 0 1 (by decide) _).mono ?_
  rintro e u3 ⟨rfl, rfl⟩
  clear c0 c1 c2 f0 f1 f2
  have p0 := hL.get (P := pBlk w.heap.size #[.int .u64 0] 22) (by repeat (first | exact List.mem_cons_self | apply List.mem_cons_of_mem))
  have p1 := hL.get (P := pBlk (w.heap.size + 1) #[.int .i64 0] 3) (by repeat (first | exact List.mem_cons_self | apply List.mem_cons_of_mem))
  have p2 := hL.get (P := pBlk (w.heap.size + 1 + 1) #[.int .i64 0] 24) (by repeat (first | exact List.mem_cons_self | apply List.mem_cons_of_mem))
  have hbl := hL.below
  clear hL
  go_wp2
  refine leaves_cons (f := 31) (args := #[.pointer (some ⟨w.heap.size, 0, none⟩), .pointer (some ⟨w.heap.size + 1, 0, none⟩), .pointer (some ⟨w.heap.size + 1 + 1, 0, none⟩)]) (by simp) (by simp [go_sem]) ?_
  refine (qcatch_thrown w.heap.size 0 1 [] _ p0 p1 p2).mono ?_
  rintro e1 u8 w8 ⟨rfl, rfl, pd0, pd1, pd2, hb8⟩
  have y0 := pd0.cell 0 _ rfl
  have y1 := pd1.cell 0 _ rfl
  have y2 := pd2.cell 0 _ rfl
  have hbf := hbl.trans hb8
  clear p0 p1 p2 pd0 pd1 pd2
  simp [Leaves, settle, results, Tryz.results13, go_sem, y0, y1, y2]
  exact hbf
theorem mode_two {mode : Int} (h : ¬ (mode ≠ 1 ∧ mode ≠ 2)) : (mode != 1) = false ∨ ((mode != 1) = true ∧ (mode != 2) = false) := by
  by_cases h1 : mode = 1
  · left; simp [h1]
  · right
    refine ⟨by simp [h1], ?_⟩
    have : mode = 2 := Classical.byContradiction fun h2 => h ⟨h1, h2⟩
    simp [this]
theorem rd_bytes1 (w : World) (l : List UInt8) (n : Nat) (fr : Nat × Nat) : RdB (w.alloc (.cells (bytesRow (strL l) n) 5 fr)).drew (w.alloc (.cells (bytesRow (strL l) n) 5 fr)).drew.heap.size (some ⟨w.heap.size, 0, none⟩) l := by
  have h := rd_bytes w l n fr
  have h2 : (w.alloc (.cells (bytesRow (strL l) n) 5 fr)).drew.heap.size = w.heap.size + 1 := by simp
  rw [h2]
  exact h
end Go.Proofs.YtncfbleeidjflaaGreatDoor
namespace Go.Proofs.YtncfbleeidjflaaGreatDoor
open Go.RowKit Go.Cal
set_option maxRecDepth 100000 in
set_option maxHeartbeats 2000000 in
theorem parse_bad (id mode : Int) (l : List UInt8) (hl : l.length ≤ 1099511627776) (h1 : 1 ≤ id) (h2 : id < 15) (hm : ¬ (mode ≠ 1 ∧ mode ≠ 2)) (ht : (textS l).1 = false) (w : World) (hW : VaW w) :
    Calls Tryz.prog 13 #[.int .i64 id, .int .i64 mode, .string (strL l)] w fun e w' => e = .returned (.tuple #[.int .u64 0, .int .i64 ((textS l).2 : Nat), .int .i64 2]) ∧ Below w.heap.size w w' := by
  have hcv := fun w => run_bytes_of_string (P := Tryz.prog) w 9 66 5 (strL l) sunder_str sunder_bytes sunder_byte
  have hsz := strL_size l
  simp only [hsz] at hcv
  obtain ⟨at', hat⟩ : ∃ x, (textS l).2 = x := ⟨_, rfl⟩
  rw [hat]
  rcases mode_two hm with m1 | ⟨m1, m2⟩
  all_goals
    clear hm
    skip
    have hmf : ∀ (fn : Fn) (first cap : Array Value) (w : World), (Instr.makeFunc fn first cap).run Tryz.prog w = .ok (.func fn first cap) w := fun _ _ _ _ => rfl
    have hfo := Lib.hid (fun (W : World) (hW : VaW W) => fo_of id W hW.frm h1 h2)
    have hL := parse_start w
    go_enter_defers Tryz.func13, Tryz.ntmps13
    go_wp2_with fail
    refine (hfo.out _ (hW.below hL.below)).mono ?_
    rintro e u1 ⟨rfl, hb1⟩
    have hF := pBlk_made u1 #[.int .i64 (fK id), .int .i64 (fW id), .int .i64 (fM id), .int .i64 (fB id), .int .u64 (fT id), .int .u64 (fI id), .int .u64 (fN id)] 58
    replace hL := (hL.go hb1).go ((Below.refl _ _).alloc (Nat.le_refl _) (.cells #[.int .i64 (fK id), .int .i64 (fW id), .int .i64 (fM id), .int .i64 (fB id), .int .u64 (fT id), .int .u64 (fI id), .int .u64 (fN id)] 58))
    obtain ⟨c0, c1, c2, f0, f1, f2, hlt⟩ := get_c hL
    go_wp2_with fail
    refine (qmust_yes 0 _).mono ?_
    rintro e u2 ⟨rfl, rfl⟩
    have hgF : w.heap.size + 1 + 1 < u1.heap.size := by
      have := hb1.size
      simp at this
      omega
    replace hL := set_e hL 0
    replace hF := hF.othX (g' := w.heap.size + 1 + 1) (by omega) 0 (.int .i64 0)
    clear c0 c1 c2 f0 f1 f2 hlt hb1
    obtain ⟨W1, hW1⟩ : ∃ W1, ((u1.alloc (.cells #[.int .i64 (fK id), .int .i64 (fW id), .int .i64 (fM id), .int .i64 (fB id), .int .u64 (fT id), .int .u64 (fI id), .int .u64 (fN id)] 58)).setCell ⟨w.heap.size + 1 + 1, 0, none⟩ (.int .i64 0)) = W1 := ⟨_, rfl⟩
    rw [hW1] at hL hF ⊢
    clear hW1
    obtain ⟨gF, hgE⟩ : ∃ g, u1.heap.size = g := ⟨_, rfl⟩
    rw [hgE] at hF hgF ⊢
    clear hgE
    obtain ⟨c0, c1, c2, f0, f1, f2, hlt⟩ := get_c hL
    go_wp2_with fail
    refine (scan_any l _ _ (rd_bytes1 W1 l _ _) hl).mono ?_
    rintro e w2 ⟨hcase, hb⟩
    rcases hcase with ⟨h0, _⟩ | ⟨_, rfl⟩
    · rw [ht] at h0; cases h0
    rw [hat]
    unfold itemNo
    replace hL := hL.go (((Below.refl _ _).alloc (Nat.le_refl _) _).drew.trans (hb.mono (by simp)))
    replace hL := hL.go ((Below.refl _ _).alloc (Nat.le_refl _) (.cells #[.int .i64 0, .bool false, .slice none 0 0, .int .i64 0, .int .i64 0, .bool false] 63))
    clear c0 c1 c2 f0 f1 f2 hlt hcv hsz hat
    obtain ⟨c0, c1, c2, f0, f1, f2, hlt⟩ := get_c hL
    go_wp2_with fail
    refine (qmust_no at' 2 (by decide) _).mono ?_
    rintro e u4 ⟨rfl, rfl⟩
    replace hL := set_e (set_a hL at') 2
    clear c0 c1 c2 f0 f1 f2 hlt
    have p0 := hL.get (P := pBlk w.heap.size #[.int .u64 0] 22) (by repeat (first | exact List.mem_cons_self | apply List.mem_cons_of_mem))
    have p1 := hL.get (P := pBlk (w.heap.size + 1) #[.int .i64 at'] 3) (by repeat (first | exact List.mem_cons_self | apply List.mem_cons_of_mem))
    have p2 := hL.get (P := pBlk (w.heap.size + 1 + 1) #[.int .i64 2] 24) (by repeat (first | exact List.mem_cons_self | apply List.mem_cons_of_mem))
    have hbl := hL.below
    clear hL
    go_wp2
    refine leaves_cons (f := 31) (args := #[.pointer (some ⟨w.heap.size, 0, none⟩), .pointer (some ⟨w.heap.size + 1, 0, none⟩), .pointer (some ⟨w.heap.size + 1 + 1, 0, none⟩)]) (by simp) (by simp [go_sem]) ?_
    refine (qcatch_thrown w.heap.size at' 2 [] _ p0 p1 p2).mono ?_
    rintro e1 u8 w8 ⟨rfl, rfl, pd0, pd1, pd2, hb8⟩
    have y0 := pd0.cell 0 _ rfl
    have y1 := pd1.cell 0 _ rfl
    have y2 := pd2.cell 0 _ rfl
    have hbf := hbl.trans hb8
    clear p0 p1 p2 pd0 pd1 pd2
    simp [Leaves, settle, results, Tryz.results13, go_sem, y0, y1, y2]
    exact hbf
end Go.Proofs.YtncfbleeidjflaaGreatDoor
