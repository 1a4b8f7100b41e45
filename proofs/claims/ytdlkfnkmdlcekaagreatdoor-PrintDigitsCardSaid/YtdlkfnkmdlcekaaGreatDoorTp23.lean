/- The digits of a text, walked: Unlay, that throws and recovers; its parts. Conditions: the variables that the library reads. -/
import Derived.Test.YtdlkfnkmdlcekaaGreatDoorTp18
import Derived.Test.YtdlkfnkmdlcekaaGreatDoorTp16
import Derived.Shelf.Strings.Shaped
import Derived.Defers
import Derived.Deep.RegionHeld3
import Derived.Recover
import Derived.Laws.IdiomStrings
import Derived.Tactics2
namespace Go.Proofs.YtdlkfnkmdlcekaaGreatDoor
open Go.RowKit Go.Cal
theorem unT_trim (l : List UInt8) : Lib.trimPrefix l [45] = (unT l).1 ∧ Lib.hasPrefix l [45] = (unT l).2 := by
  unfold Lib.trimPrefix Lib.hasPrefix
  match l with
  | [] => exact ⟨rfl, rfl⟩
  | c :: r =>
    by_cases h : c = 45
    · subst h
      exact ⟨by simp [List.isPrefixOf, unT], by simp [List.isPrefixOf, unT]⟩
    · rw [unT_dig (l := c :: r) (fun c' r' e => by injection e with e1 _; rw [← e1]; exact h)]
      have h' : (45 == c) = false := by simpa using fun e : 45 = c => h e.symm
      simp [List.isPrefixOf, h']
theorem cutp_any (l : List UInt8) (w : World) : Calls Tryz.prog 71 #[.string (strL l), .string ⟨#[45]⟩] w fun e w' => e = .returned (.tuple #[.string (strL (unT l).1), .bool (unT l).2]) ∧ w = w' := by
  refine (Tryz.strings_CutPrefix (strL l) ⟨#[45]⟩ w).mono ?_
  rintro e w' ⟨rfl, rfl⟩
  obtain ⟨h1, h2⟩ := unT_trim l
  refine ⟨?_, rfl⟩
  rw [← h1, ← h2]
  rfl
theorem lcut_any (c : UInt8) (l : List UInt8) (hl : l.length ≤ 1000000) (w : World) (hm : ∃ m, w.cell? ⟨6, 0, none⟩ = some (.int .i64 m)) :
    Calls Tryz.prog 72 #[.string (strL l), .string ⟨#[c]⟩] w fun e w' => e = .returned (.tuple #[.string (strL (cutC c l).1), .string (strL (cutC c l).2.1), .bool (cutC c l).2.2]) ∧ Below w.heap.size w w' := by
  obtain ⟨m, hm⟩ := hm
  refine (Tryz.strings_Cut (strL l) ⟨#[c]⟩ m w (by rw [strL_size]; omega) hm).mono ?_
  rintro e w' ⟨rfl, n, rfl⟩
  refine ⟨?_, ?_⟩
  · rw [← cut_one]; rfl
  · exact Drawn.below (w := w) ⟨n, rfl⟩ _
theorem lunder_wrong : Tryz.prog.underlying 121 = some (.struct #[]) := by kernel_rfl
theorem assert_wrong (xt : TypeId) (w : World) : (Instr.typeAssert (.iface 121 (.agg #[])) xt 121 true).run Tryz.prog w = .ok (.tuple #[.agg #[], .bool true]) w := by
  unfold Instr.typeAssert
  simp [run_underlying lunder_wrong, Sem.run_bind, Sem.run_pure]
theorem pBlk.setI {g : Nat} {cs : Array Value} {t : TypeId} {w : World} (h : pBlk g cs t w) (i : Nat) (u : Value) : pBlk g (cs.setIfInBounds i u) t (w.setCell ⟨g, i, none⟩ u) := Lib.heap_setCell_same (i := i) h u
theorem pBlk.oth {g g' : Nat} {cs : Array Value} {t : TypeId} {w : World} (h : pBlk g cs t w) (hne : g ≠ g') (i : Nat) (u : Value) : pBlk g cs t (w.setCell ⟨g', i, none⟩ u) := by
  unfold pBlk at *
  simp only [World.setCell, Array.getElem?_modify]
  rw [if_neg (fun e => hne e.symm)]
  exact h
theorem pBlk.allocL {g : Nat} {cs : Array Value} {t : TypeId} {w : World} (h : pBlk g cs t w) (o : Obj) : pBlk g cs t (w.alloc o) := pBlk_st _ _ _ _ _ h ((Below.refl _ _).alloc (Nat.le_refl _) _)
theorem IsT.apartB {w : World} {v u : Value} {k N g i : Nat} {cs : Array Value} {t : TypeId} (h : IsT w v k N) (hp : pBlk g cs t w) (hy : ∀ x ∈ cs.toList, ∀ n, x ≠ .int .u64 n) : IsT (w.setCell ⟨g, i, none⟩ u) v k N := by
  obtain ⟨A, c, zs, h1, h2, h3⟩ := h
  refine ⟨A, c, zs, h1, ⟨?_, fun b off e j hj => ?_⟩, h3⟩
  · rw [size_setCell]; exact h2.place
  · have hc := h2.cells b off e j hj
    by_cases hb : b = g
    · subst hb
      exfalso
      rw [cell_of_row w b _ _ _ _ hp] at hc
      have hm : Value.int .u64 ((zs.getD j 0 : Nat) : Int) ∈ cs.toList := by
        have := Array.mem_of_getElem? hc
        simpa using this
      exact hy _ hm _ rfl
    · rw [World.cell?_setCell_other _ _ _ _ (fun e => hb (by injection e with e; exact e.symm))]
      exact hc
set_option maxRecDepth 100000 in
set_option maxHeartbeats 1000000 in
theorem lcatch_thrown (g : Nat) (older : List PanicEntry) (w : World) {x0 x1 x2 y : Value} (pd : pBlk g #[x0, x1, x2] 72 w) (pe : pBlk (g + 1) #[y] 26 w) :
    CallsD Tryz.prog 70 #[.pointer (some ⟨g, 0, none⟩), .pointer (some ⟨g + 1, 0, none⟩)] (.panicking ({ v := .iface 121 (.agg #[]), recovered := false } :: older)) w fun e u' w' =>
      e = .returned (.tuple #[]) ∧ u' = .panicking ({ v := .iface 121 (.agg #[]), recovered := true } :: older) ∧ pBlk g #[.bool false, .slice none 0 0, .int .i64 0] 72 w' ∧ pBlk (g + 1) #[.int .i64 2] 26 w' ∧ Below g w w' := by
  have hta := assert_wrong
  have c0 := pd.cell 0 _ rfl
  have c1 := pd.cell 1 _ rfl
  have c2 := pd.cell 2 _ rfl
  have e0 := pe.cell 0 _ rfl
  have f0 := pd.free 0
  have f1 := pd.free 1
  have f2 := pd.free 2
  have k0 := pe.free 0
  have hg := cell_lt c0
  have he := cell_lt e0
  refine callsD_of_wpS Tryz.func70 rfl fun c₀ cs hu => ?_
  apply wpS_seq
  apply wpS_region
  simp [wpOpsS, go_sem, recoverD, hu, Tryz.ntmps70, Exit.thenS]
  apply wpS_seq
  apply wpS_region
  simp [wpOpsS, go_sem, Exit.thenS]
  refine wpS_cond (t := true) (by simp [Act.eval, Array.replicate]) ?_
  simp only [if_true]
  refine wpS_of_wp ?_
  simp [Array.replicate]
  go_wp2
  simp [bodyPostS, results, Tryz.results70]
  exact ⟨((((pd.setI 0 _).setI 1 _).setI 2 _).oth (by omega) 0 _).allocL _, ((((pe.oth (by omega) 0 _).oth (by omega) 1 _).oth (by omega) 2 _).setI 0 _).allocL _, (((((Below.refl g w).setCell (Nat.le_refl _) _).setCell (Nat.le_refl _) _).setCell (Nat.le_refl _) _).setCell (Nat.le_succ _) _).alloc (by simp [World.setCell]; omega) _⟩
set_option maxRecDepth 100000 in
theorem lcatch_idle (g : Nat) (w : World) :
    CallsD Tryz.prog 70 #[.pointer (some ⟨g, 0, none⟩), .pointer (some ⟨g + 1, 0, none⟩)] .returning w fun e u' w' => e = .returned (.tuple #[]) ∧ u' = .returning ∧ w' = w := by
  refine callsD_of_wpS Tryz.func70 rfl fun c₀ cs hu => ?_
  apply wpS_seq
  apply wpS_region
  simp [wpOpsS, go_sem, recoverD, hu, Tryz.ntmps70, Exit.thenS]
  apply wpS_seq
  apply wpS_region
  simp [wpOpsS, go_sem, Exit.thenS]
  refine wpS_cond (t := false) (by simp [Act.eval, Array.replicate]) ?_
  simp only [Bool.false_eq_true, if_false]
  refine wpS_of_wp (wp_skip ?_)
  cases c₀
  simp_all [bodyPostS, results, Tryz.results70]
theorem pBlk_madeL (w : World) (cs : Array Value) (t : TypeId) (s : Nat) (hs : w.heap.size = s) : pBlk s cs t (w.alloc (.cells cs t)) := by
  subst hs
  exact pBlk_made w cs t
theorem unlay_start (w : World) : LiveP w ((w.alloc (.cells #[.bool false, .slice none 0 0, .int .i64 0] 72)).alloc (.cells #[.int .i64 0] 26)) [pBlk (w.heap.size + 1) #[.int .i64 0] 26, pBlk w.heap.size #[.bool false, .slice none 0 0, .int .i64 0] 72] := by
  have h1 := ((LiveP.start w).go ((Below.refl _ _).alloc (Nat.le_refl _) (.cells #[.bool false, .slice none 0 0, .int .i64 0] 72))).put (pBlk_st _ _ _) (pBlk_made w #[.bool false, .slice none 0 0, .int .i64 0] 72)
  exact (h1.go ((Below.refl _ _).alloc (Nat.le_refl _) (.cells #[.int .i64 0] 26))).put (pBlk_st _ _ _) (pBlk_madeL (w.alloc (.cells #[.bool false, .slice none 0 0, .int .i64 0] 72)) #[.int .i64 0] 26 (w.heap.size + 1) (by simp))
/-- A store into the digits. -/
theorem live_set {w W : World} {l : List (World → Prop)} {cs cs' : Array Value} {y : Value} (hL : LiveP w W l) (pd : pBlk w.heap.size cs 72 W) (pe : pBlk (w.heap.size + 1) #[y] 26 W) (i : Nat) (u : Value) (hcs : cs.setIfInBounds i u = cs' := by rfl) :
    LiveP w (W.setCell ⟨w.heap.size, i, none⟩ u) [pBlk (w.heap.size + 1) #[y] 26, pBlk w.heap.size cs' 72] := by
  subst hcs
  refine ⟨hL.below.setCell (Nat.le_refl _) _, fun P hP => ?_⟩
  rcases List.mem_cons.1 hP with rfl | hP
  · exact ⟨pBlk_st _ _ _, pe.oth (by omega) i u⟩
  · rcases List.mem_cons.1 hP with rfl | hP
    · exact ⟨pBlk_st _ _ _, pd.setI i u⟩
    · simp at hP
/-- What Unlay tells. -/
def UOut (w : World) (r : Option (Bool × Nat × Int)) (e : Ending) (w' : World) : Prop :=
  (r = none ∧ e = .returned (.tuple #[.agg #[.bool false, .slice none 0 0, .int .i64 0], .int .i64 2]) ∧ Below w.heap.size w w') ∨
  ∃ neg N k v, r = some (neg, N, k) ∧ e = .returned (.tuple #[.agg #[.bool neg, v, .int .i64 k], .int .i64 0]) ∧ IsT w' v 128 N ∧ Below w.heap.size w w'
end Go.Proofs.YtdlkfnkmdlcekaaGreatDoor
