/- What a text is by a power of two, walked: qtext.Parse, that throws and recovers. Conditions: a text's reach. -/
/- The laws of chapter 16: 'few', a number of so many words; 'shown', what must be in any case. Condition: the table of powers reads as it is laid. -/
import Derived.Test.YtncfbleeidjflaaGreatDoorTx25
import Derived.Test.YtncfbleeidjflaaGreatDoorTx23
import Derived.Defers
import Derived.Deep.RegionHeld3
import Derived.Recover
import Derived.Laws.IdiomStrings
import Derived.Tactics2
namespace Go.Proofs.YtncfbleeidjflaaGreatDoor
open Go.RowKit Go.Cal
theorem qunder_err : Tryz.prog.underlying 24 = some (.int .i64) := by kernel_rfl
theorem assert_err (n : Int) (xt : TypeId) (w : World) : (Instr.typeAssert (.iface 24 (.int .i64 n)) xt 24 true).run Tryz.prog w = .ok (.tuple #[.int .i64 n, .bool true]) w := by
  unfold Instr.typeAssert
  simp [run_underlying qunder_err, Sem.run_bind, Sem.run_pure]
set_option maxRecDepth 100000 in
set_option maxHeartbeats 1000000 in
theorem catch_thrown (g : Nat) (n : Int) (older : List PanicEntry) (w : World) (x : Bool) (y : Value) (z : Int) (c0 : w.cell? ⟨g, 0, none⟩ = some (.bool x)) (c1 : w.cell? ⟨g + 1, 0, none⟩ = some y) (c2 : w.cell? ⟨g + 2, 0, none⟩ = some (.int .i64 z))
    (f0 : w.frozen? ⟨g, 0, none⟩ = false) (f1 : w.frozen? ⟨g + 1, 0, none⟩ = false) (f2 : w.frozen? ⟨g + 2, 0, none⟩ = false) :
    CallsD Tryz.prog 55 #[.pointer (some ⟨g, 0, none⟩), .pointer (some ⟨g + 1, 0, none⟩), .pointer (some ⟨g + 2, 0, none⟩)] (.panicking ({ v := .iface 24 (.int .i64 n), recovered := false } :: older)) w fun e u' w' =>
      e = .returned (.tuple #[]) ∧ u' = .panicking ({ v := .iface 24 (.int .i64 n), recovered := true } :: older) ∧ w' = ((w.setCell ⟨g, 0, none⟩ (.bool false)).setCell ⟨g + 1, 0, none⟩ (.slice none 0 0)).setCell ⟨g + 2, 0, none⟩ (.int .i64 n) := by
  have hta := assert_err
  refine callsD_of_wpS Tryz.func55 rfl fun c₀ cs hu => ?_
  apply wpS_seq
  apply wpS_region
  simp [wpOpsS, go_sem, recoverD, hu, Tryz.ntmps55, Exit.thenS]
  apply wpS_seq
  apply wpS_region
  simp [wpOpsS, go_sem, Exit.thenS]
  refine wpS_cond (t := true) (by simp [Act.eval, Array.replicate]) ?_
  simp only [if_true]
  refine wpS_of_wp ?_
  simp [Array.replicate]
  go_wp2
  simp [bodyPostS, results, Tryz.results55]
set_option maxRecDepth 100000 in
theorem catch_idle (g : Nat) (w : World) :
    CallsD Tryz.prog 55 #[.pointer (some ⟨g, 0, none⟩), .pointer (some ⟨g + 1, 0, none⟩), .pointer (some ⟨g + 2, 0, none⟩)] .returning w fun e u' w' => e = .returned (.tuple #[]) ∧ u' = .returning ∧ w' = w := by
  refine callsD_of_wpS Tryz.func55 rfl fun c₀ cs hu => ?_
  apply wpS_seq
  apply wpS_region
  simp [wpOpsS, go_sem, recoverD, hu, Tryz.ntmps55, Exit.thenS]
  apply wpS_seq
  apply wpS_region
  simp [wpOpsS, go_sem, Exit.thenS]
  refine wpS_cond (t := false) (by simp [Act.eval, Array.replicate]) ?_
  simp only [Bool.false_eq_true, if_false]
  refine wpS_of_wp (wp_skip ?_)
  cases c₀
  simp_all [bodyPostS, results, Tryz.results55]
theorem pBlk.set {g : Nat} {y u : Value} {t : TypeId} {w : World} (h : pBlk g #[y] t w) : pBlk g #[u] t (w.setCell ⟨g, 0, none⟩ u) := by
  have := Lib.heap_setCell_same (i := 0) h u
  simp only [List.setIfInBounds_toArray, List.set_cons_zero] at this
  exact this
theorem pBlk.oth {g g' : Nat} {cs : Array Value} {t : TypeId} {w : World} (h : pBlk g cs t w) (hne : g ≠ g') (i : Nat) (u : Value) : pBlk g cs t (w.setCell ⟨g', i, none⟩ u) := by
  unfold pBlk at *
  simp only [World.setCell, Array.getElem?_modify]
  rw [if_neg (fun e => hne e.symm)]
  exact h
theorem IsT.apart {w : World} {v y u : Value} {k N g : Nat} {t : TypeId} (h : IsT w v k N) (hp : pBlk g #[y] t w) (hy : ∀ n, y ≠ .int .u64 n) : IsT (w.setCell ⟨g, 0, none⟩ u) v k N := by
  obtain ⟨A, c, zs, h1, h2, h3⟩ := h
  refine ⟨A, c, zs, h1, ⟨?_, fun b off e i hi => ?_⟩, h3⟩
  · rw [size_setCell]; exact h2.place
  · have hc := h2.cells b off e i hi
    by_cases hb : b = g
    · subst hb
      exfalso
      rw [cell_of_row w b _ _ _ _ hp] at hc
      rcases Nat.eq_zero_or_pos (off + i) with h0 | h0
      · rw [h0] at hc
        injection hc with hc
        exact hy _ hc
      · rw [Array.getElem?_eq_none (by show 1 ≤ off + i; exact h0)] at hc
        cases hc
    · rw [World.cell?_setCell_other _ _ _ _ (fun e => hb (by injection e with e; exact e.symm))]
      exact hc
/-- What Parse tells. -/
def POut (w : World) (q : Nat × Bool × Nat) (e' : Ending) (w' : World) : Prop :=
  ∃ v, e' = .returned (.tuple #[.bool q.2.1, v, .int .i64 (q.1 : Nat)]) ∧ IsT w' v 6000 q.2.2 ∧ Below w.heap.size w w'
theorem IsT.nilT (w : World) (k : Nat) : IsT w (.slice none 0 0) k 0 := ⟨none, 0, [], rfl, .nil, Nat.le_refl _, by unfold maxLen; omega, by simp, .zero⟩
theorem pout_err {w w' : World} {q : Nat × Bool × Nat} {n : Nat} (h : q = (n, false, 0)) (hb : Below w.heap.size w w') : POut w q (.returned (.tuple #[.bool false, .slice none 0 0, .int .i64 (n : Nat)])) w' := by
  subst h
  exact ⟨_, rfl, .nilT _ _, hb⟩
theorem parse_start (w : World) : LiveP w (((w.alloc (.cells #[.bool false] 4)).alloc (.cells #[.slice none 0 0] 33)).alloc (.cells #[.int .i64 0] 24)) [pBlk (w.heap.size + 2) #[.int .i64 0] 24, pBlk (w.heap.size + 1) #[.slice none 0 0] 33, pBlk w.heap.size #[.bool false] 4] := by
  have h1 := ((LiveP.start w).go ((Below.refl _ _).alloc (Nat.le_refl _) (.cells #[.bool false] 4))).put (pBlk_st _ _ _) (pBlk_made w #[.bool false] 4)
  have h2 := (h1.go ((Below.refl _ _).alloc (Nat.le_refl _) (.cells #[.slice none 0 0] 33))).put (pBlk_st _ _ _) (pBlk_made' (w.alloc (.cells #[.bool false] 4)) #[.slice none 0 0] 33 (w.heap.size + 1) (by simp))
  exact (h2.go ((Below.refl _ _).alloc (Nat.le_refl _) (.cells #[.int .i64 0] 24))).put (pBlk_st _ _ _) (pBlk_made' _ #[.int .i64 0] 24 (w.heap.size + 2) (by simp))
set_option maxRecDepth 100000 in
set_option maxHeartbeats 4000000 in
theorem qparse_far (l : List UInt8) (e : Int) (he64 : -9223372036854775808 ≤ e ∧ e ≤ 9223372036854775807) (hf : qfar e) (w : World) : Calls Tryz.prog 19 #[.string (strL l), .int .i64 e] w (POut w (qP l e)) := by
  have hmf : ∀ (fn : Fn) (first cap : Array Value) (w : World), (Instr.makeFunc fn first cap).run Tryz.prog w = .ok (.func fn first cap) w := fun _ _ _ _ => rfl
  have hfar : decide (qfar e) = true := decide_eq_true hf
  have hL := parse_start w
  have hq := Lib.hid (show qP l e = (1, false, 0) by unfold qP; rw [if_pos hf])
  go_enter_defers Tryz.func19, Tryz.ntmps19
  go_wp2_with fail
  refine (far_any e _ he64).mono ?_
  rintro e1 w1 ⟨rfl, rfl⟩
  rw [hfar]
  go_wp2_with fail
  refine (must_no 1 _).mono ?_
  rintro e1 w1 ⟨rfl, rfl⟩
  have p0 := hL.get (P := pBlk w.heap.size #[.bool false] 4) (by repeat (first | exact List.mem_cons_self | apply List.mem_cons_of_mem))
  have p1 := hL.get (P := pBlk (w.heap.size + 1) #[.slice none 0 0] 33) (by repeat (first | exact List.mem_cons_self | apply List.mem_cons_of_mem))
  have p2 := hL.get (P := pBlk (w.heap.size + 2) #[.int .i64 0] 24) (by repeat (first | exact List.mem_cons_self | apply List.mem_cons_of_mem))
  have c0 := p0.cell 0 _ rfl
  have c1 := p1.cell 0 _ rfl
  have c2 := p2.cell 0 _ rfl
  have f0 := p0.free 0
  have f1 := p1.free 0
  have f2 := p2.free 0
  clear hL p0 p1 p2
  go_wp2
  refine leaves_cons (f := 55) (args := #[.pointer (some ⟨w.heap.size, 0, none⟩), .pointer (some ⟨w.heap.size + 1, 0, none⟩), .pointer (some ⟨w.heap.size + 2, 0, none⟩)]) (by simp) (by simp [go_sem]) ?_
  refine (catch_thrown w.heap.size 1 [] _ false _ 0 c0 c1 c2 f0 f1 f2).mono ?_
  rintro e1 u1 w8 ⟨rfl, rfl, rfl⟩
  simp [Leaves, settle, results, Tryz.results19, go_sem]
  exact pout_err (n := 1) hq.out ((((Below.refl _ _).alloc (Nat.le_refl _) _).alloc (by simp) _).alloc (by simp <;> omega) _)
theorem rd_bytes4 (w : World) (o1 o2 o3 : Obj) (l : List UInt8) (n : Nat) (fr : Nat × Nat) : RdB ((((w.alloc o1).alloc o2).alloc o3).alloc (.cells (bytesRow (strL l) n) 5 fr)).drew ((((w.alloc o1).alloc o2).alloc o3).alloc (.cells (bytesRow (strL l) n) 5 fr)).drew.heap.size (some ⟨w.heap.size + 3, 0, none⟩) l := by
  have h := rd_bytes (((w.alloc o1).alloc o2).alloc o3) l n fr
  have h1 : (((w.alloc o1).alloc o2).alloc o3).heap.size = w.heap.size + 3 := by simp
  rw [h1] at h
  have h2 : ((((w.alloc o1).alloc o2).alloc o3).alloc (.cells (bytesRow (strL l) n) 5 fr)).drew.heap.size = w.heap.size + 3 + 1 := by simp
  rw [h2]
  exact h
set_option maxRecDepth 100000 in
set_option maxHeartbeats 4000000 in
theorem qparse_no (l : List UInt8) (hl : l.length ≤ 1000000) (e : Int) (he64 : -9223372036854775808 ≤ e ∧ e ≤ 9223372036854775807) (hf : ¬ qfar e) (hok : (textS l).1 = false) (w : World) : Calls Tryz.prog 19 #[.string (strL l), .int .i64 e] w (POut w (qP l e)) := by
  have hq := Lib.hid (show qP l e = (2, false, 0) by unfold qP; rw [if_neg hf, if_pos (.inl hok)])
  have hmf : ∀ (fn : Fn) (first cap : Array Value) (w : World), (Instr.makeFunc fn first cap).run Tryz.prog w = .ok (.func fn first cap) w := fun _ _ _ _ => rfl
  have hcv := fun w => run_bytes_of_string (P := Tryz.prog) w 9 66 5 (strL l) sunder_str sunder_bytes sunder_byte
  have hsz := strL_size l
  simp only [hsz] at hcv
  have hfar : decide (qfar e) = false := decide_eq_false hf
  have hL := parse_start w
  go_enter_defers Tryz.func19, Tryz.ntmps19
  go_wp2_with fail
  refine (far_any e _ he64).mono ?_
  rintro e1 w1 ⟨rfl, rfl⟩
  rw [hfar]
  go_wp2_with fail
  refine (must_yes 1 _).mono ?_
  rintro e1 w1 ⟨rfl, rfl⟩
  go_wp2_with fail
  refine (scan_no l _ _ hok rfl rfl hl _ (rd_bytes4 w _ _ _ l _ _)).mono ?_
  rintro e1 w2 ⟨rfl, hb⟩
  replace hL := ((hL.go ((Below.refl _ _).alloc (Nat.le_refl _) _).drew).go hb).go ((Below.refl _ _).alloc (Nat.le_refl _) (.cells #[.int .i64 0, .bool false, .slice none 0 0, .int .i64 0, .int .i64 0, .bool false] 63))
  clear hb
  go_wp2_with fail
  refine (must_no 2 _).mono ?_
  rintro e1 w1 ⟨rfl, rfl⟩
  have p0 := hL.get (P := pBlk w.heap.size #[.bool false] 4) (by repeat (first | exact List.mem_cons_self | apply List.mem_cons_of_mem))
  have p1 := hL.get (P := pBlk (w.heap.size + 1) #[.slice none 0 0] 33) (by repeat (first | exact List.mem_cons_self | apply List.mem_cons_of_mem))
  have p2 := hL.get (P := pBlk (w.heap.size + 2) #[.int .i64 0] 24) (by repeat (first | exact List.mem_cons_self | apply List.mem_cons_of_mem))
  have hbl := hL.below
  have c0 := p0.cell 0 _ rfl
  have c1 := p1.cell 0 _ rfl
  have c2 := p2.cell 0 _ rfl
  have f0 := p0.free 0
  have f1 := p1.free 0
  have f2 := p2.free 0
  clear hL p0 p1 p2
  go_wp2
  refine leaves_cons (f := 55) (args := #[.pointer (some ⟨w.heap.size, 0, none⟩), .pointer (some ⟨w.heap.size + 1, 0, none⟩), .pointer (some ⟨w.heap.size + 2, 0, none⟩)]) (by simp) (by simp [go_sem]) ?_
  refine (catch_thrown w.heap.size 2 [] _ false _ 0 c0 c1 c2 f0 f1 f2).mono ?_
  rintro e1 u1 w8 ⟨rfl, rfl, rfl⟩
  have hpo := pout_err (n := 2) hq.out (((hbl.setCell (p := ⟨w.heap.size, 0, none⟩) (Nat.le_refl _) (.bool false)).setCell (p := ⟨w.heap.size + 1, 0, none⟩) (Nat.le_succ _) (.slice none 0 0)).setCell (p := ⟨w.heap.size + 2, 0, none⟩) (Nat.le_add_right _ _) (.int .i64 2))
  simp [Leaves, settle, results, Tryz.results19, go_sem, c0, c1, c2]
  exact hpo
/-- The bounds of a number that may be. -/
theorem bnd_k {it : Cal.Item} {neg : Bool} (h : Bnd it neg) : -3000 ≤ it.k ∧ it.k ≤ 1000 := by
  obtain ⟨_, h1, _, h2⟩ := h
  by_cases h0 : it.d = 0
  · rw [(h1 h0).1]; omega
  · obtain ⟨_, _, r, c, _, _, h3, _, h4, h5⟩ := h2 h0
    omega
set_option maxRecDepth 100000 in
set_option maxHeartbeats 8000000 in
theorem qparse_yes (l : List UInt8) (hl : l.length ≤ 1000000) (e : Int) (he64 : -9223372036854775808 ≤ e ∧ e ≤ 9223372036854775807) (hf : ¬ qfar e) (hok' : (textS l).1 = true) (kd : Nat) (ng : Bool) (d : Nat) (k bg : Int) (ct : Bool) (hit' : textV 1125899906842624 l = ⟨kd, ng, d, k, bg, ct⟩) (w : World) : Calls Tryz.prog 19 #[.string (strL l), .int .i64 e] w (POut w (qP l e)) := by
  have hbk := bnd_k (hit' ▸ textV_bnd 1125899906842624 l)
  have hqp : qP l e = if (⟨kd, ng, d, k, bg, ct⟩ : Cal.Item).kind ≠ 1 then (2, false, 0) else if bg ≠ 0 ∨ ct = true then (8, false, 0) else match qwh d k e with
    | none => (8, false, 0)
    | some m => if m < qB then (0, ng && decide (m ≠ 0), m) else (4, false, 0) := by
    unfold qP
    rw [if_neg hf, hit']
    by_cases h1 : kd ≠ 1
    · rw [if_pos (.inr h1), if_pos h1]
    · rw [if_neg (by rw [hok']; simpa using h1), if_neg h1]
      rfl
  have hit := Lib.hid hit'
  have hok := Lib.hid hok'
  by_cases hkd : kd = 1
  · subst hkd
    by_cases hbc : bg ≠ 0 ∨ ct = true
    · have hq := Lib.hid (show qP l e = (8, false, 0) by rw [hqp, if_neg (by simp), if_pos hbc])
      clear hqp
      by_cases hb0 : bg = 0
      · subst hb0
        obtain rfl : ct = true := hbc.resolve_left (by simp)
        have hmf : ∀ (fn : Fn) (first cap : Array Value) (w : World), (Instr.makeFunc fn first cap).run Tryz.prog w = .ok (.func fn first cap) w := fun _ _ _ _ => rfl
        have hcv := fun w => run_bytes_of_string (P := Tryz.prog) w 9 66 5 (strL l) sunder_str sunder_bytes sunder_byte
        have hsz := strL_size l
        simp only [hsz] at hcv
        have hfar : decide (qfar e) = false := decide_eq_false hf
        have hL := parse_start w
        go_enter_defers Tryz.func19, Tryz.ntmps19
        go_wp2_with fail
        refine (far_any e _ he64).mono ?_
        rintro e1 w1 ⟨rfl, rfl⟩
        rw [hfar]
        go_wp2_with fail
        refine (must_yes 1 _).mono ?_
        rintro e1 w1 ⟨rfl, rfl⟩
        go_wp2_with fail
        refine (scan_yes l ⟨1, ng, d, k, _, _⟩ _ hok.out hit.out rfl hl _ (rd_bytes4 w _ _ _ l _ _)).mono ?_
        rintro e1 w2 ⟨A', n', c', rfl, hd, hb⟩
        simp only at hd ⊢
        replace hL := ((hL.go ((Below.refl _ _).alloc (Nat.le_refl _) _).drew).go hb).go ((Below.refl _ _).alloc (Nat.le_refl _) (.cells #[.int .i64 1, .bool ng, .slice A' n' c', .int .i64 k, .int .i64 0, .bool true] 63))
        clear hb hd
        go_wp2_with fail
        refine (must_yes 2 _).mono ?_
        rintro e1 w1 ⟨rfl, rfl⟩
        go_wp2_with fail
        refine (must_no 8 _).mono ?_
        rintro e1 w1 ⟨rfl, rfl⟩
        have p0 := hL.get (P := pBlk w.heap.size #[.bool false] 4) (by repeat (first | exact List.mem_cons_self | apply List.mem_cons_of_mem))
        have p1 := hL.get (P := pBlk (w.heap.size + 1) #[.slice none 0 0] 33) (by repeat (first | exact List.mem_cons_self | apply List.mem_cons_of_mem))
        have p2 := hL.get (P := pBlk (w.heap.size + 2) #[.int .i64 0] 24) (by repeat (first | exact List.mem_cons_self | apply List.mem_cons_of_mem))
        have hbl := hL.below
        have c0 := p0.cell 0 _ rfl
        have c1 := p1.cell 0 _ rfl
        have c2 := p2.cell 0 _ rfl
        have f0 := p0.free 0
        have f1 := p1.free 0
        have f2 := p2.free 0
        clear hL p0 p1 p2
        go_wp2
        refine leaves_cons (f := 55) (args := #[.pointer (some ⟨w.heap.size, 0, none⟩), .pointer (some ⟨w.heap.size + 1, 0, none⟩), .pointer (some ⟨w.heap.size + 2, 0, none⟩)]) (by simp) (by simp [go_sem]) ?_
        refine (catch_thrown w.heap.size 8 [] _ false _ 0 c0 c1 c2 f0 f1 f2).mono ?_
        rintro e1 u1 w8 ⟨rfl, rfl, rfl⟩
        have hpo := pout_err (n := 8) hq.out (((hbl.setCell (p := ⟨w.heap.size, 0, none⟩) (Nat.le_refl _) (.bool false)).setCell (p := ⟨w.heap.size + 1, 0, none⟩) (Nat.le_succ _) (.slice none 0 0)).setCell (p := ⟨w.heap.size + 2, 0, none⟩) (Nat.le_add_right _ _) (.int .i64 8))
        simp [Leaves, settle, results, Tryz.results19, go_sem, c0, c1, c2]
        exact hpo
      · have hbb : (bg == 0) = false := beq_eq_false_iff_ne.2 hb0
        have hmf : ∀ (fn : Fn) (first cap : Array Value) (w : World), (Instr.makeFunc fn first cap).run Tryz.prog w = .ok (.func fn first cap) w := fun _ _ _ _ => rfl
        have hcv := fun w => run_bytes_of_string (P := Tryz.prog) w 9 66 5 (strL l) sunder_str sunder_bytes sunder_byte
        have hsz := strL_size l
        simp only [hsz] at hcv
        have hfar : decide (qfar e) = false := decide_eq_false hf
        have hL := parse_start w
        go_enter_defers Tryz.func19, Tryz.ntmps19
        go_wp2_with fail
        refine (far_any e _ he64).mono ?_
        rintro e1 w1 ⟨rfl, rfl⟩
        rw [hfar]
        go_wp2_with fail
        refine (must_yes 1 _).mono ?_
        rintro e1 w1 ⟨rfl, rfl⟩
        go_wp2_with fail
        refine (scan_yes l ⟨1, ng, d, k, _, _⟩ _ hok.out hit.out rfl hl _ (rd_bytes4 w _ _ _ l _ _)).mono ?_
        rintro e1 w2 ⟨A', n', c', rfl, hd, hb⟩
        simp only at hd ⊢
        replace hL := ((hL.go ((Below.refl _ _).alloc (Nat.le_refl _) _).drew).go hb).go ((Below.refl _ _).alloc (Nat.le_refl _) (.cells #[.int .i64 1, .bool ng, .slice A' n' c', .int .i64 k, .int .i64 bg, .bool ct] 63))
        clear hb hd
        go_wp2_with fail
        refine (must_yes 2 _).mono ?_
        rintro e1 w1 ⟨rfl, rfl⟩
        go_wp2_with fail
        refine (must_no 8 _).mono ?_
        rintro e1 w1 ⟨rfl, rfl⟩
        have p0 := hL.get (P := pBlk w.heap.size #[.bool false] 4) (by repeat (first | exact List.mem_cons_self | apply List.mem_cons_of_mem))
        have p1 := hL.get (P := pBlk (w.heap.size + 1) #[.slice none 0 0] 33) (by repeat (first | exact List.mem_cons_self | apply List.mem_cons_of_mem))
        have p2 := hL.get (P := pBlk (w.heap.size + 2) #[.int .i64 0] 24) (by repeat (first | exact List.mem_cons_self | apply List.mem_cons_of_mem))
        have hbl := hL.below
        have c0 := p0.cell 0 _ rfl
        have c1 := p1.cell 0 _ rfl
        have c2 := p2.cell 0 _ rfl
        have f0 := p0.free 0
        have f1 := p1.free 0
        have f2 := p2.free 0
        clear hL p0 p1 p2
        go_wp2
        refine leaves_cons (f := 55) (args := #[.pointer (some ⟨w.heap.size, 0, none⟩), .pointer (some ⟨w.heap.size + 1, 0, none⟩), .pointer (some ⟨w.heap.size + 2, 0, none⟩)]) (by simp) (by simp [go_sem]) ?_
        refine (catch_thrown w.heap.size 8 [] _ false _ 0 c0 c1 c2 f0 f1 f2).mono ?_
        rintro e1 u1 w8 ⟨rfl, rfl, rfl⟩
        have hpo := pout_err (n := 8) hq.out (((hbl.setCell (p := ⟨w.heap.size, 0, none⟩) (Nat.le_refl _) (.bool false)).setCell (p := ⟨w.heap.size + 1, 0, none⟩) (Nat.le_succ _) (.slice none 0 0)).setCell (p := ⟨w.heap.size + 2, 0, none⟩) (Nat.le_add_right _ _) (.int .i64 8))
        simp [Leaves, settle, results, Tryz.results19, go_sem, c0, c1, c2]
        exact hpo
    · obtain rfl : bg = 0 := by
        by_cases h : bg = 0
        · exact h
        · exact absurd (.inl h) hbc
      obtain rfl : ct = false := by
        cases ct
        · rfl
        · exact absurd (.inr rfl) hbc
      rw [if_neg (by simp), if_neg hbc] at hqp
      replace hqp := Lib.hid hqp
      have hmf : ∀ (fn : Fn) (first cap : Array Value) (w : World), (Instr.makeFunc fn first cap).run Tryz.prog w = .ok (.func fn first cap) w := fun _ _ _ _ => rfl
      have hcv := fun w => run_bytes_of_string (P := Tryz.prog) w 9 66 5 (strL l) sunder_str sunder_bytes sunder_byte
      have hsz := strL_size l
      simp only [hsz] at hcv
      have hfar : decide (qfar e) = false := decide_eq_false hf
      have hL := parse_start w
      go_enter_defers Tryz.func19, Tryz.ntmps19
      go_wp2_with fail
      refine (far_any e _ he64).mono ?_
      rintro e1 w1 ⟨rfl, rfl⟩
      rw [hfar]
      go_wp2_with fail
      refine (must_yes 1 _).mono ?_
      rintro e1 w1 ⟨rfl, rfl⟩
      go_wp2_with fail
      refine (scan_yes l ⟨1, ng, d, k, 0, false⟩ _ hok.out hit.out rfl hl _ (rd_bytes4 w _ _ _ l _ _)).mono ?_
      rintro e1 w2 ⟨A', n', c', rfl, hd, hb⟩
      simp only at hd ⊢
      have hd' := pItem_again hd.item
      replace hL := (((hL.go ((Below.refl _ _).alloc (Nat.le_refl _) _).drew).go hb).put (pT_st _ _ _) hd')
      replace hL := (hL.go ((Below.refl _ _).alloc (Nat.le_refl _) (.cells #[.int .i64 1, .bool ng, .slice A' n' c', .int .i64 k, .int .i64 0, .bool false] 63))).put (pBlk_st _ _ _) (pBlk_made w2 #[.int .i64 1, .bool ng, .slice A' n' c', .int .i64 k, .int .i64 0, .bool false] 63)
      have hw2 : w.heap.size + 3 ≤ w2.heap.size := by have := hb.size; simp at this; omega
      clear hb hd hd'
      go_wp2_with fail
      refine (must_yes 2 _).mono ?_
      rintro e1 w1 ⟨rfl, rfl⟩
      go_wp2_with fail
      refine (must_yes 8 _).mono ?_
      rintro e1 w1 ⟨rfl, rfl⟩
      go_wp2_with fail
      refine (qwhole_any (IsT.isN (hL.get (P := pT (.slice A' n' c') 2000 d) (by repeat (first | exact List.mem_cons_self | apply List.mem_cons_of_mem)))) 1 ng k 0 e false hbk.1 hbk.2 hf).mono ?_
      rintro e1 w3 (⟨hn, rfl, hb⟩ | ⟨m, hm, ⟨hmb, v, rfl, hv, hb⟩ | ⟨hmb, rfl, hb⟩⟩)
      · have hq := Lib.hid (show qP l e = (8, false, 0) by rw [hqp.out, hn])
        replace hL := hL.go hb
        clear hb hn
        have p0 := hL.get (P := pBlk w.heap.size #[.bool false] 4) (by repeat (first | exact List.mem_cons_self | apply List.mem_cons_of_mem))
        have p1 := hL.get (P := pBlk (w.heap.size + 1) #[.slice none 0 0] 33) (by repeat (first | exact List.mem_cons_self | apply List.mem_cons_of_mem))
        have p2 := hL.get (P := pBlk (w.heap.size + 2) #[.int .i64 0] 24) (by repeat (first | exact List.mem_cons_self | apply List.mem_cons_of_mem))
        have hbl := hL.below
        have c0 := p0.cell 0 _ rfl
        have c1 := p1.cell 0 _ rfl
        have c2 := p2.cell 0 _ rfl
        have f0 := p0.free 0
        have f1 := p1.free 0
        have f2 := p2.free 0
        clear hL p0 p1 p2
        go_wp2
        refine leaves_cons (f := 55) (args := #[.pointer (some ⟨w.heap.size, 0, none⟩), .pointer (some ⟨w.heap.size + 1, 0, none⟩), .pointer (some ⟨w.heap.size + 2, 0, none⟩)]) (by simp) (by simp [go_sem]) ?_
        refine (catch_thrown w.heap.size 8 [] _ false _ 0 c0 c1 c2 f0 f1 f2).mono ?_
        rintro e1 u1 w8 ⟨rfl, rfl, rfl⟩
        have hpo := pout_err (n := 8) hq.out (((hbl.setCell (p := ⟨w.heap.size, 0, none⟩) (Nat.le_refl _) (.bool false)).setCell (p := ⟨w.heap.size + 1, 0, none⟩) (Nat.le_succ _) (.slice none 0 0)).setCell (p := ⟨w.heap.size + 2, 0, none⟩) (Nat.le_add_right _ _) (.int .i64 8))
        simp [Leaves, settle, results, Tryz.results19, go_sem, c0, c1, c2]
        exact hpo
      · have hq := Lib.hid (show qP l e = (0, ng && decide (m ≠ 0), m) by rw [hqp.out, hm]; simp [hmb])
        obtain ⟨A9, c9, zs, hve, hvr⟩ := id hv
        subst hve
        clear hvr
        replace hL := hL.go hb
        have p0 := hL.get (P := pBlk w.heap.size #[.bool false] 4) (by repeat (first | exact List.mem_cons_self | apply List.mem_cons_of_mem))
        have p1 := hL.get (P := pBlk (w.heap.size + 1) #[.slice none 0 0] 33) (by repeat (first | exact List.mem_cons_self | apply List.mem_cons_of_mem))
        have p2 := hL.get (P := pBlk (w.heap.size + 2) #[.int .i64 0] 24) (by repeat (first | exact List.mem_cons_self | apply List.mem_cons_of_mem))
        have px := hL.get (P := pBlk w2.heap.size #[.int .i64 1, .bool ng, .slice A' n' c', .int .i64 k, .int .i64 0, .bool false] 63) (by repeat (first | exact List.mem_cons_self | apply List.mem_cons_of_mem))
        have hbl := hL.below.setCell (p := ⟨w.heap.size + 1, 0, none⟩) (Nat.le_succ _) (.slice A9 zs.length c9)
        have hv5 := IsT.apart (u := .slice A9 zs.length c9) hv p1 (fun n h => by cases h)
        have d1 := p1.cell 0 _ rfl
        have g1 := p1.free 0
        have y0 := (p0.oth (g' := w.heap.size + 1) (by omega) 0 (.slice A9 zs.length c9)).cell 0 _ rfl
        have y1 := (p1.set (u := .slice A9 zs.length c9)).cell 0 _ rfl
        have y2 := (p2.oth (g' := w.heap.size + 1) (by omega) 0 (.slice A9 zs.length c9)).cell 0 _ rfl
        have yx := (px.oth (g' := w.heap.size + 1) (by omega) 0 (.slice A9 zs.length c9)).cell 1 _ rfl
        have z0 := (p0.oth (g' := w.heap.size + 1) (by omega) 0 (.slice A9 zs.length c9)).free 0
        have z1 := (p1.set (u := .slice A9 zs.length c9)).free 0
        have z2 := (p2.oth (g' := w.heap.size + 1) (by omega) 0 (.slice A9 zs.length c9)).free 0
        have pp0 := p0.oth (g' := w.heap.size + 1) (by omega) 0 (.slice A9 zs.length c9)
        have pp1 := p1.set (u := .slice A9 zs.length c9)
        have pp2 := p2.oth (g' := w.heap.size + 1) (by omega) 0 (.slice A9 zs.length c9)
        have hbb := sbits_t (IsT.isN (hv5.below (Below.refl _ _).drew)) (by decide)
        have hb3 := blen_iff (N := m) (k := 0)
        simp only [Nat.pow_zero] at hb3
        clear hb hm hqp hL p0 p1 p2 px hmf hcv hit hit' hfar
        cases ng
        · go_wp2
          go_region
          have r0 := (((pp0.set (u := .bool false)).oth (g' := w.heap.size + 1) (by omega) 0 (.slice A9 zs.length c9)).oth (g' := w.heap.size + 2) (by omega) 0 (.int .i64 0)).cell 0 _ rfl
          have r1 := (((pp1.oth (g' := w.heap.size) (by omega) 0 (.bool false)).set (u := .slice A9 zs.length c9)).oth (g' := w.heap.size + 2) (by omega) 0 (.int .i64 0)).cell 0 _ rfl
          have r2 := (((pp2.oth (g' := w.heap.size) (by omega) 0 (.bool false)).oth (g' := w.heap.size + 1) (by omega) 0 (.slice A9 zs.length c9)).set (u := .int .i64 0)).cell 0 _ rfl
          have s1 := ((hv5.apart (u := .bool false) pp0 (fun n h => by cases h)).apart (u := .slice A9 zs.length c9) (pp1.oth (g' := w.heap.size) (by omega) 0 (.bool false)) (fun n h => by cases h)).apart (u := .int .i64 0) ((pp2.oth (g' := w.heap.size) (by omega) 0 (.bool false)).oth (g' := w.heap.size + 1) (by omega) 0 (.slice A9 zs.length c9)) (fun n h => by cases h)
          have hfin := (((hbl.setCell (p := ⟨w.heap.size, 0, none⟩) (Nat.le_refl _) (.bool false)).setCell (p := ⟨w.heap.size + 1, 0, none⟩) (Nat.le_succ _) (.slice A9 zs.length c9)).setCell (p := ⟨w.heap.size + 2, 0, none⟩) (Nat.le_add_right _ _) (.int .i64 0)).drew
          go_wp2
          show Leaves _ _ _ _ _ .returning _
          refine leaves_cons (f := 55) (args := #[.pointer (some ⟨w.heap.size, 0, none⟩), .pointer (some ⟨w.heap.size + 1, 0, none⟩), .pointer (some ⟨w.heap.size + 2, 0, none⟩)]) (by simp) (by simp [go_sem]) ?_
          refine (catch_idle w.heap.size _).mono ?_
          rintro e1 u1 w8 ⟨rfl, rfl, rfl⟩
          simp [Leaves, settle, results, Tryz.results19, go_sem, r0, r1, r2]
          rw [hq.out]
          exact ⟨_, rfl, s1.below (Below.refl _ _).drew, hfin⟩
        · have hbm : (true && decide (m ≠ 0)) = decide (0 < blen m) := by
            rw [Bool.true_and]
            by_cases h0 : m = 0
            · rw [decide_eq_false (by omega), decide_eq_false (by omega)]
            · rw [decide_eq_true h0, decide_eq_true (by omega)]
          go_wp2
          refine wp_region_noPanic ?_
          go_region_law (go_simp; go_at_call 45; refine Calls.mono hbb ?_; rintro e w1 ⟨rfl, rfl⟩)
          all_goals
            refine NoPanic.normal ?_
            have r0 := (((pp0.set (u := .bool (decide (0 < blen m)))).oth (g' := w.heap.size + 1) (by omega) 0 (.slice A9 zs.length c9)).oth (g' := w.heap.size + 2) (by omega) 0 (.int .i64 0)).cell 0 _ rfl
            have r1 := (((pp1.oth (g' := w.heap.size) (by omega) 0 (.bool (decide (0 < blen m)))).set (u := .slice A9 zs.length c9)).oth (g' := w.heap.size + 2) (by omega) 0 (.int .i64 0)).cell 0 _ rfl
            have r2 := (((pp2.oth (g' := w.heap.size) (by omega) 0 (.bool (decide (0 < blen m)))).oth (g' := w.heap.size + 1) (by omega) 0 (.slice A9 zs.length c9)).set (u := .int .i64 0)).cell 0 _ rfl
            have s1 := ((hv5.apart (u := .bool (decide (0 < blen m))) pp0 (fun n h => by cases h)).apart (u := .slice A9 zs.length c9) (pp1.oth (g' := w.heap.size) (by omega) 0 (.bool (decide (0 < blen m)))) (fun n h => by cases h)).apart (u := .int .i64 0) ((pp2.oth (g' := w.heap.size) (by omega) 0 (.bool (decide (0 < blen m)))).oth (g' := w.heap.size + 1) (by omega) 0 (.slice A9 zs.length c9)) (fun n h => by cases h)
            have hfin := (((hbl.setCell (p := ⟨w.heap.size, 0, none⟩) (Nat.le_refl _) (.bool (decide (0 < blen m)))).setCell (p := ⟨w.heap.size + 1, 0, none⟩) (Nat.le_succ _) (.slice A9 zs.length c9)).setCell (p := ⟨w.heap.size + 2, 0, none⟩) (Nat.le_add_right _ _) (.int .i64 0)).drew
            go_wp2
            show Leaves _ _ _ _ _ .returning _
            refine leaves_cons (f := 55) (args := #[.pointer (some ⟨w.heap.size, 0, none⟩), .pointer (some ⟨w.heap.size + 1, 0, none⟩), .pointer (some ⟨w.heap.size + 2, 0, none⟩)]) (by simp) (by simp [go_sem]) ?_
            refine (catch_idle w.heap.size _).mono ?_
            rintro e1 u1 w8 ⟨rfl, rfl, rfl⟩
            simp [Leaves, settle, results, Tryz.results19, go_sem, r0, r1, r2]
            rw [hq.out]
            rw [hbm]
            exact ⟨_, rfl, s1.below (Below.refl _ _).drew, hfin⟩
      · have hq := Lib.hid (show qP l e = (4, false, 0) by rw [hqp.out, hm]; simp [hmb])
        replace hL := hL.go hb
        clear hb hm
        have p0 := hL.get (P := pBlk w.heap.size #[.bool false] 4) (by repeat (first | exact List.mem_cons_self | apply List.mem_cons_of_mem))
        have p1 := hL.get (P := pBlk (w.heap.size + 1) #[.slice none 0 0] 33) (by repeat (first | exact List.mem_cons_self | apply List.mem_cons_of_mem))
        have p2 := hL.get (P := pBlk (w.heap.size + 2) #[.int .i64 0] 24) (by repeat (first | exact List.mem_cons_self | apply List.mem_cons_of_mem))
        have hbl := hL.below
        have c0 := p0.cell 0 _ rfl
        have c1 := p1.cell 0 _ rfl
        have c2 := p2.cell 0 _ rfl
        have f0 := p0.free 0
        have f1 := p1.free 0
        have f2 := p2.free 0
        clear hL p0 p1 p2
        go_wp2
        refine leaves_cons (f := 55) (args := #[.pointer (some ⟨w.heap.size, 0, none⟩), .pointer (some ⟨w.heap.size + 1, 0, none⟩), .pointer (some ⟨w.heap.size + 2, 0, none⟩)]) (by simp) (by simp [go_sem]) ?_
        refine (catch_thrown w.heap.size 4 [] _ false _ 0 c0 c1 c2 f0 f1 f2).mono ?_
        rintro e1 u1 w8 ⟨rfl, rfl, rfl⟩
        have hpo := pout_err (n := 4) hq.out (((hbl.setCell (p := ⟨w.heap.size, 0, none⟩) (Nat.le_refl _) (.bool false)).setCell (p := ⟨w.heap.size + 1, 0, none⟩) (Nat.le_succ _) (.slice none 0 0)).setCell (p := ⟨w.heap.size + 2, 0, none⟩) (Nat.le_add_right _ _) (.int .i64 4))
        simp [Leaves, settle, results, Tryz.results19, go_sem, c0, c1, c2]
        exact hpo
  · have hki : ¬ ((kd : Nat) : Int) = 1 := by omega
    have hkb : (((kd : Nat) : Int) == 1) = false := beq_eq_false_iff_ne.2 hki
    have hq := Lib.hid (show qP l e = (2, false, 0) by rw [hqp, if_pos hkd])
    clear hqp
    have hmf : ∀ (fn : Fn) (first cap : Array Value) (w : World), (Instr.makeFunc fn first cap).run Tryz.prog w = .ok (.func fn first cap) w := fun _ _ _ _ => rfl
    have hcv := fun w => run_bytes_of_string (P := Tryz.prog) w 9 66 5 (strL l) sunder_str sunder_bytes sunder_byte
    have hsz := strL_size l
    simp only [hsz] at hcv
    have hfar : decide (qfar e) = false := decide_eq_false hf
    have hL := parse_start w
    go_enter_defers Tryz.func19, Tryz.ntmps19
    go_wp2_with fail
    refine (far_any e _ he64).mono ?_
    rintro e1 w1 ⟨rfl, rfl⟩
    rw [hfar]
    go_wp2_with fail
    refine (must_yes 1 _).mono ?_
    rintro e1 w1 ⟨rfl, rfl⟩
    go_wp2_with fail
    refine (scan_yes l ⟨kd, ng, d, k, bg, ct⟩ _ hok.out hit.out rfl hl _ (rd_bytes4 w _ _ _ l _ _)).mono ?_
    rintro e1 w2 ⟨A', n', c', rfl, hd, hb⟩
    simp only at hd ⊢
    replace hL := ((hL.go ((Below.refl _ _).alloc (Nat.le_refl _) _).drew).go hb).go ((Below.refl _ _).alloc (Nat.le_refl _) (.cells #[.int .i64 (kd : Nat), .bool ng, .slice A' n' c', .int .i64 k, .int .i64 bg, .bool ct] 63))
    clear hb hd
    go_wp2_with fail
    refine (must_no 2 _).mono ?_
    rintro e1 w1 ⟨rfl, rfl⟩
    have p0 := hL.get (P := pBlk w.heap.size #[.bool false] 4) (by repeat (first | exact List.mem_cons_self | apply List.mem_cons_of_mem))
    have p1 := hL.get (P := pBlk (w.heap.size + 1) #[.slice none 0 0] 33) (by repeat (first | exact List.mem_cons_self | apply List.mem_cons_of_mem))
    have p2 := hL.get (P := pBlk (w.heap.size + 2) #[.int .i64 0] 24) (by repeat (first | exact List.mem_cons_self | apply List.mem_cons_of_mem))
    have hbl := hL.below
    have c0 := p0.cell 0 _ rfl
    have c1 := p1.cell 0 _ rfl
    have c2 := p2.cell 0 _ rfl
    have f0 := p0.free 0
    have f1 := p1.free 0
    have f2 := p2.free 0
    clear hL p0 p1 p2
    go_wp2
    refine leaves_cons (f := 55) (args := #[.pointer (some ⟨w.heap.size, 0, none⟩), .pointer (some ⟨w.heap.size + 1, 0, none⟩), .pointer (some ⟨w.heap.size + 2, 0, none⟩)]) (by simp) (by simp [go_sem]) ?_
    refine (catch_thrown w.heap.size 2 [] _ false _ 0 c0 c1 c2 f0 f1 f2).mono ?_
    rintro e1 u1 w8 ⟨rfl, rfl, rfl⟩
    have hpo := pout_err (n := 2) hq.out (((hbl.setCell (p := ⟨w.heap.size, 0, none⟩) (Nat.le_refl _) (.bool false)).setCell (p := ⟨w.heap.size + 1, 0, none⟩) (Nat.le_succ _) (.slice none 0 0)).setCell (p := ⟨w.heap.size + 2, 0, none⟩) (Nat.le_add_right _ _) (.int .i64 2))
    simp [Leaves, settle, results, Tryz.results19, go_sem, c0, c1, c2]
    exact hpo
end Go.Proofs.YtncfbleeidjflaaGreatDoor
namespace Go.Proofs.YtncfbleeidjflaaGreatDoor
open Go.RowKit Go.Cal
theorem slice_nat (A : Option Addr) (n c : Nat) (k : Int) (w : World) (h0 : 0 ≤ k) (h1 : k ≤ c) : (Instr.slice 33 (.slice A n c) none (some (.int .i64 k)) none).run Tryz.prog w = .ok (.slice A k.toNat c) w := by
  have hu : Tryz.prog.underlying 33 = some (.slice (Tryz.prog.elem 33)) := by kernel_rfl
  have ha : ∀ a : Addr, a.add 0 = a := fun a => by cases a; unfold Addr.add; split <;> simp_all
  rw [run_slice_h _ _ _ _ _ hu .i64 k h0 h1]
  obtain ⟨i, hi, hz0, hz1, hz2⟩ := info_parts info_u64
  have he : Tryz.prog.elem 33 = 22 := by kernel_rfl
  have hs : (sizeOf (Tryz.prog.elem 33)).run Tryz.prog w = .ok 1 w := by
    rw [he]; simp [sizeOf, typeInfo, hi, hz1]
  rw [hs]
  simp [Result.andThen, sliced, ha]
set_option maxRecDepth 100000 in
set_option maxHeartbeats 1000000 in
theorem qfew_any {B w : World} {v : Value} (n : Nat) (hb : Below B.heap.size B w) (ha : ArgN B v) (hn : n ≤ 1048576) :
    Calls Tryz.prog 16 #[v, .int .i64 n] w fun e w' => ∃ u X, e = .returned u ∧ pT u n X w' ∧ Below w.heap.size w w' := by
  obtain ⟨A, c, xs, rfl, h1, h2, h3, h4, h5⟩ := ha
  have hr := (h1.below hb).more hb.size
  obtain ⟨m, hm⟩ : ∃ m, min xs.length n = m := ⟨_, rfl⟩
  have hmi : min (xs.length : Int) (n : Int) = (m : Int) := by omega
  have hmc : (m : Int) ≤ (c : Int) := by omega
  have hsl := fun w => slice_nat A xs.length c (m : Int) w (by omega) hmc
  simp only [Int.toNat_natCast] at hsl
  have hml : (xs.take m).length = m := by rw [List.length_take]; omega
  have hN : IsN w (.slice A m c) n (vl 18446744073709551616 (xs.take m)) := ⟨A, c, xs.take m, by rw [hml], hr.take m, by omega, by omega, dig_take h5 m, rfl⟩
  unfold maxLen at h4
  replace hm := Lib.hid hm
  replace hml := Lib.hid hml
  go_enter Tryz.func16, Tryz.ntmps16
  go_wp2_with fail
  refine (norm_t hN (by omega)).mono ?_
  rintro e w1 ⟨u, rfl, hv, hb'⟩
  go_wp2
  go_ret
  exact ⟨u, _, rfl, hv, hb'⟩
theorem qparse_any (l : List UInt8) (hl : l.length ≤ 1000000) (e : Int) (he64 : -9223372036854775808 ≤ e ∧ e ≤ 9223372036854775807) (w : World) : Calls Tryz.prog 19 #[.string (strL l), .int .i64 e] w (POut w (qP l e)) := by
  by_cases hf : qfar e
  · exact qparse_far l e he64 hf w
  · by_cases hok : (textS l).1 = true
    · exact qparse_yes l hl e he64 hf hok _ _ _ _ _ _ rfl w
    · exact qparse_no l hl e he64 hf (by simpa using hok) w
/-- The calls with what they tell given by its value. -/
theorem qtext_is {v : Value} {k N : Nat} (w : World) (t : List UInt8) (hT : Tab10 w) (h : IsN w v k N) (hk : k ≤ 64) (neg : Bool) (e : Int) (he : ¬ qfar e) (hN : N < qB) (ht : qS neg N e = t) :
    Calls Tryz.prog 17 #[.bool neg, v, .int .i64 e] w fun e' w' => e' = .returned (.tuple #[.string (strL t), .int .i64 0]) ∧ Below w.heap.size w w' := by
  subst ht
  exact qtext_ok w hT h hk neg e he hN
theorem qparse_is (l : List UInt8) (hl : l.length ≤ 1000000) (e : Int) (he64 : -9223372036854775808 ≤ e ∧ e ≤ 9223372036854775807) (f : Nat) (ng : Bool) (m : Nat) (h : qP l e = (f, ng, m)) (w : World) :
    Calls Tryz.prog 19 #[.string (strL l), .int .i64 e] w fun e' w' => ∃ v, e' = .returned (.tuple #[.bool ng, v, .int .i64 (f : Nat)]) ∧ IsT w' v 6000 m ∧ Below w.heap.size w w' := by
  have := qparse_any l hl e he64 w
  unfold POut at this
  rw [h] at this
  exact this
theorem strL_toL (l : List UInt8) : (strL l).toList = l := by unfold strL; rw [ByteArray.toList_mk]
theorem qlit (w : World) (x : Nat) (hx : x < 18446744073709551616) : IsN (w.alloc (.cells #[.int .u64 x] 22)) (.slice (some ⟨w.heap.size, 0, none⟩) 1 1) 1 x := by
  have h := IsN.lit w [x] #[.int .u64 x] rfl (fun y hy => by simp at hy; subst hy; exact hx)
  simpa [vl] using h
set_option maxRecDepth 100000 in
set_option maxHeartbeats 8000000 in
theorem qshown_any (w : World) (hT : Tab10 w) : Calls Tryz.prog 15 #[] w fun e w' => e = .returned (.bool true) ∧ Below w.heap.size w w' := by
  have hA : IsN (w.alloc (.cells #[.int .u64 5] 22)) (.slice (some ⟨w.heap.size, 0, none⟩) 1 1) 1 5 := qlit w 5 (by decide)
  have hb0 := (Below.refl w.heap.size w).alloc (Nat.le_refl _) (.cells #[.int .u64 5] 22)
  have hL := (LiveP.start w).go hb0
  clear hb0
  have t1 := strL_toL [45, 49, 46, 50, 53]
  have t2 := strL_toL [48]
  go_enter Tryz.func15, Tryz.ntmps15
  go_wp2_with fail
  refine (qtext_is _ [45, 49, 46, 50, 53] (hT.below hL.below) hA (by decide) true (-2) (by decide +kernel) (by decide +kernel) (by decide +kernel)).mono ?_
  rintro e w1 ⟨rfl, hb⟩
  replace hL := hL.go hb
  clear hb hA
  go_wp2_with fail
  refine (qtext_is _ [48] (hT.below hL.below) (.nil _) (by decide) true 3 (by decide +kernel) (by decide +kernel) (by decide +kernel)).mono ?_
  rintro e w2 ⟨rfl, hb⟩
  replace hL := hL.go hb
  clear hb
  have hA : IsN (w2.alloc (.cells #[.int .u64 1] 22)) (.slice (some ⟨w2.heap.size, 0, none⟩) 1 1) 1 1 := qlit w2 1 (by decide)
  replace hL := hL.go ((Below.refl _ _).alloc (Nat.le_refl _) (.cells #[.int .u64 1] 22))
  go_wp2_with fail
  refine (qtext_bad _ hA (by decide) false 1201 (by decide) (.inl (by decide +kernel))).mono ?_
  rintro e w3 ⟨rfl, hb⟩
  replace hL := hL.go hb
  clear hb hA
  go_wp2_with fail; refine (qparse_is [49, 46, 50, 53] (by decide) (-1) (by decide) 8 false 0 (by decide +kernel) _).mono ?_; rintro e w1 ⟨v1, rfl, hv, hb⟩; replace hL := (hL.go hb).put (pT_st _ _ _) hv; clear hb hv
  go_wp2_with fail; refine (qparse_is [45, 49, 50, 46, 53, 48, 101, 45, 49] (by decide) (-2) (by decide) 0 true 5 (by decide +kernel) _).mono ?_; rintro e w1 ⟨v2, rfl, hv, hb⟩; replace hL := (hL.go hb).put (pT_st _ _ _) hv; clear hb hv
  go_wp2_with fail; refine (qparse_is [105, 110, 102] (by decide) (0) (by decide) 2 false 0 (by decide +kernel) _).mono ?_; rintro e w1 ⟨v3, rfl, hv, hb⟩; replace hL := (hL.go hb).put (pT_st _ _ _) hv; clear hb hv
  go_wp2_with fail; refine (qparse_is [49, 101, 56, 48, 48] (by decide) (-1200) (by decide) 4 false 0 (by decide +kernel) _).mono ?_; rintro e w1 ⟨v4, rfl, hv, hb⟩; replace hL := (hL.go hb).put (pT_st _ _ _) hv; clear hb hv
  go_wp2_with fail; refine (qparse_is [49, 101, 49, 48, 48, 48] (by decide) (0) (by decide) 8 false 0 (by decide +kernel) _).mono ?_; rintro e w1 ⟨v5, rfl, hv, hb⟩; replace hL := (hL.go hb).put (pT_st _ _ _) hv; clear hb hv
  go_wp2_with fail
  refine (stext_t (hT.below hL.below) (IsT.isN (hL.get (P := pT v2 6000 5) (by repeat (first | exact List.mem_cons_self | apply List.mem_cons_of_mem)))) (by decide)).mono ?_
  rintro e w9 ⟨rfl, hb⟩
  replace hL := hL.go hb
  clear hb
  rw [show Lib.decDigits 5 = [53] from dec_is (by decide) (by decide) (by decide) (by decide)]
  go_wp2
  go_ret
  exact ⟨rfl, hL.below⟩
end Go.Proofs.YtncfbleeidjflaaGreatDoor
