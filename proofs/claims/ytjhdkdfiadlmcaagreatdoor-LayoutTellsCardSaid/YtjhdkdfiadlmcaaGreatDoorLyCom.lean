/- The laws of chapter 12: digits that came in, right or not; LayoutBack. Conditions: the variables that the library reads. -/
/- The digits of a text, walked: Unlay, that throws and recovers; its parts. Conditions: the variables that the library reads. -/
/- The digits of a text, walked: Unlay, that throws and recovers. Conditions: the variables that the library reads. -/
/- The laws of chapter 12: 'same', 'of'; what must be in any case. Conditions: the variables that the library reads. -/
/- Rows whose walk asks the world's shape, and sentinels that are laid. Conditions: none. -/
/- Digits out of an argument: a struct of a sign, a slice of words, an exponent. Conditions: none. -/
import Derived.Test.YtjhdkdfiadlmcaaGreatDoorLayG
import Derived.Test.YtjhdkdfiadlmcaaGreatDoorScanG
import Derived.Shelf.Strings.Shaped
import Derived.Defers
import Derived.Deep.RegionHeld3
import Derived.Recover
import Derived.Laws.IdiomStrings
import Derived.Tactics2
import Derived.Test.YtjhdkdfiadlmcaaGreatDoorRowBase
import Derived.HandedShaped
namespace Go.Proofs.YtjhdkdfiadlmcaaGreatDoor
open Go.RowKit Go.Cal
theorem unT_trim (l : List UInt8) : Lib.trimPrefix l [45] = (unT l).1 ∧ Lib.hasPrefix l [45] = (unT l).2 := by
  unfold Lib.trimPrefix Lib.hasPrefix
  match l with
  | [] => exact ⟨rfl, rfl⟩
  | c :: r =>
    by_cases h : c = 45
    · subst h
      exact ⟨by simp [List.isPrefixOf, unT], by simp [List.isPrefixOf, unT]⟩
    · rw [unT_dig (l := c :: r) (fun c' r' e => by injection e with e1 _; rw [← e1]; exact h)]
      have h' : (45 == c) = false := by simpa using fun e : 45 = c => h e.symm
      simp [List.isPrefixOf, h']
theorem cutp_any (l : List UInt8) (w : World) : Calls Tryz.prog 36 #[.string (strL l), .string ⟨#[45]⟩] w fun e w' => e = .returned (.tuple #[.string (strL (unT l).1), .bool (unT l).2]) ∧ w = w' := by
  refine (Tryz.strings_CutPrefix (strL l) ⟨#[45]⟩ w).mono ?_
  rintro e w' ⟨rfl, rfl⟩
  obtain ⟨h1, h2⟩ := unT_trim l
  refine ⟨?_, rfl⟩
  rw [← h1, ← h2]
  rfl
theorem lcut_any (c : UInt8) (l : List UInt8) (hl : l.length ≤ 1000000) (w : World) (hm : ∃ m, w.cell? ⟨3, 0, none⟩ = some (.int .i64 m)) :
    Calls Tryz.prog 37 #[.string (strL l), .string ⟨#[c]⟩] w fun e w' => e = .returned (.tuple #[.string (strL (cutC c l).1), .string (strL (cutC c l).2.1), .bool (cutC c l).2.2]) ∧ Below w.heap.size w w' := by
  obtain ⟨m, hm⟩ := hm
  refine (Tryz.strings_Cut (strL l) ⟨#[c]⟩ m w (by rw [strL_size]; omega) hm).mono ?_
  rintro e w' ⟨rfl, n, rfl⟩
  refine ⟨?_, ?_⟩
  · rw [← cut_one]; rfl
  · exact Drawn.below (w := w) ⟨n, rfl⟩ _
theorem pOkL_iff (l : List UInt8) : pOkL l = true ↔ POk l := (pOk_iff l).symm
theorem lunder_wrong : Tryz.prog.underlying 60 = some (.struct #[]) := by kernel_rfl
theorem assert_wrong (xt : TypeId) (w : World) : (Instr.typeAssert (.iface 60 (.agg #[])) xt 60 true).run Tryz.prog w = .ok (.tuple #[.agg #[], .bool true]) w := by
  unfold Instr.typeAssert
  simp [run_underlying lunder_wrong, Sem.run_bind, Sem.run_pure]
theorem pBlk.free' {g : Nat} {cs : Array Value} {t : TypeId} {w : World} (h : pBlk g cs t w) (i : Nat) : w.frozen? ⟨g, i, none⟩ = false := h.free i
theorem pBlk.setI {g : Nat} {cs : Array Value} {t : TypeId} {w : World} (h : pBlk g cs t w) (i : Nat) (u : Value) : pBlk g (cs.setIfInBounds i u) t (w.setCell ⟨g, i, none⟩ u) := Lib.heap_setCell_same (i := i) h u
theorem pBlk.oth {g g' : Nat} {cs : Array Value} {t : TypeId} {w : World} (h : pBlk g cs t w) (hne : g ≠ g') (i : Nat) (u : Value) : pBlk g cs t (w.setCell ⟨g', i, none⟩ u) := by
  unfold pBlk at *
  simp only [World.setCell, Array.getElem?_modify]
  rw [if_neg (fun e => hne e.symm)]
  exact h
theorem pBlk.alloc {g : Nat} {cs : Array Value} {t : TypeId} {w : World} (h : pBlk g cs t w) (o : Obj) : pBlk g cs t (w.alloc o) := pBlk_st _ _ _ _ _ h ((Below.refl _ _).alloc (Nat.le_refl _) _)
theorem IsT.apartB {w : World} {v u : Value} {k N g i : Nat} {cs : Array Value} {t : TypeId} (h : IsT w v k N) (hp : pBlk g cs t w) (hy : ∀ x ∈ cs.toList, ∀ n, x ≠ .int .u64 n) : IsT (w.setCell ⟨g, i, none⟩ u) v k N := by
  obtain ⟨A, c, zs, h1, h2, h3⟩ := h
  refine ⟨A, c, zs, h1, ⟨?_, fun b off e j hj => ?_⟩, h3⟩
  · rw [size_setCell]; exact h2.place
  · have hc := h2.cells b off e j hj
    by_cases hb : b = g
    · subst hb
      exfalso
      rw [cell_of_row w b _ _ _ _ hp] at hc
      have hm : Value.int .u64 ((zs.getD j 0 : Nat) : Int) ∈ cs.toList := by
        have := Array.mem_of_getElem? hc
        simpa using this
      exact hy _ hm _ rfl
    · rw [World.cell?_setCell_other _ _ _ _ (fun e => hb (by injection e with e; exact e.symm))]
      exact hc
set_option maxRecDepth 100000 in
set_option maxHeartbeats 1000000 in
theorem lcatch_thrown (g : Nat) (older : List PanicEntry) (w : World) {x0 x1 x2 y : Value} (pd : pBlk g #[x0, x1, x2] 25 w) (pe : pBlk (g + 1) #[y] 30 w) :
    CallsD Tryz.prog 35 #[.pointer (some ⟨g, 0, none⟩), .pointer (some ⟨g + 1, 0, none⟩)] (.panicking ({ v := .iface 60 (.agg #[]), recovered := false } :: older)) w fun e u' w' =>
      e = .returned (.tuple #[]) ∧ u' = .panicking ({ v := .iface 60 (.agg #[]), recovered := true } :: older) ∧ pBlk g #[.bool false, .slice none 0 0, .int .i64 0] 25 w' ∧ pBlk (g + 1) #[.int .i64 2] 30 w' ∧ Below g w w' := by
  have hta := assert_wrong
  have c0 := pd.cell 0 _ rfl
  have c1 := pd.cell 1 _ rfl
  have c2 := pd.cell 2 _ rfl
  have e0 := pe.cell 0 _ rfl
  have f0 := pd.free 0
  have f1 := pd.free 1
  have f2 := pd.free 2
  have k0 := pe.free 0
  have hg := cell_lt c0
  have he := cell_lt e0
  refine callsD_of_wpS Tryz.func35 rfl fun c₀ cs hu => ?_
  apply wpS_seq
  apply wpS_region
  simp [wpOpsS, go_sem, recoverD, hu, Tryz.ntmps35, Exit.thenS]
  apply wpS_seq
  apply wpS_region
  simp [wpOpsS, go_sem, Exit.thenS]
  refine wpS_cond (t := true) (by simp [Act.eval, Array.replicate]) ?_
  simp only [if_true]
  refine wpS_of_wp ?_
  simp [Array.replicate]
  go_wp2
  simp [bodyPostS, results, Tryz.results35]
  exact ⟨((((pd.setI 0 _).setI 1 _).setI 2 _).oth (by omega) 0 _).alloc _, ((((pe.oth (by omega) 0 _).oth (by omega) 1 _).oth (by omega) 2 _).setI 0 _).alloc _, (((((Below.refl g w).setCell (Nat.le_refl _) _).setCell (Nat.le_refl _) _).setCell (Nat.le_refl _) _).setCell (Nat.le_succ _) _).alloc (by simp [World.setCell]; omega) _⟩
set_option maxRecDepth 100000 in
theorem lcatch_idle (g : Nat) (w : World) :
    CallsD Tryz.prog 35 #[.pointer (some ⟨g, 0, none⟩), .pointer (some ⟨g + 1, 0, none⟩)] .returning w fun e u' w' => e = .returned (.tuple #[]) ∧ u' = .returning ∧ w' = w := by
  refine callsD_of_wpS Tryz.func35 rfl fun c₀ cs hu => ?_
  apply wpS_seq
  apply wpS_region
  simp [wpOpsS, go_sem, recoverD, hu, Tryz.ntmps35, Exit.thenS]
  apply wpS_seq
  apply wpS_region
  simp [wpOpsS, go_sem, Exit.thenS]
  refine wpS_cond (t := false) (by simp [Act.eval, Array.replicate]) ?_
  simp only [Bool.false_eq_true, if_false]
  refine wpS_of_wp (wp_skip ?_)
  cases c₀
  simp_all [bodyPostS, results, Tryz.results35]
theorem pBlk_madeL (w : World) (cs : Array Value) (t : TypeId) (s : Nat) (hs : w.heap.size = s) : pBlk s cs t (w.alloc (.cells cs t)) := by
  subst hs
  exact pBlk_made w cs t
theorem unlay_start (w : World) : LiveP w ((w.alloc (.cells #[.bool false, .slice none 0 0, .int .i64 0] 25)).alloc (.cells #[.int .i64 0] 30)) [pBlk (w.heap.size + 1) #[.int .i64 0] 30, pBlk w.heap.size #[.bool false, .slice none 0 0, .int .i64 0] 25] := by
  have h1 := ((LiveP.start w).go ((Below.refl _ _).alloc (Nat.le_refl _) (.cells #[.bool false, .slice none 0 0, .int .i64 0] 25))).put (pBlk_st _ _ _) (pBlk_made w #[.bool false, .slice none 0 0, .int .i64 0] 25)
  exact (h1.go ((Below.refl _ _).alloc (Nat.le_refl _) (.cells #[.int .i64 0] 30))).put (pBlk_st _ _ _) (pBlk_madeL (w.alloc (.cells #[.bool false, .slice none 0 0, .int .i64 0] 25)) #[.int .i64 0] 30 (w.heap.size + 1) (by simp))
/-- A store into the digits. -/
theorem live_set {w W : World} {l : List (World → Prop)} {cs cs' : Array Value} {y : Value} (hL : LiveP w W l) (pd : pBlk w.heap.size cs 25 W) (pe : pBlk (w.heap.size + 1) #[y] 30 W) (i : Nat) (u : Value) (hcs : cs.setIfInBounds i u = cs' := by rfl) :
    LiveP w (W.setCell ⟨w.heap.size, i, none⟩ u) [pBlk (w.heap.size + 1) #[y] 30, pBlk w.heap.size cs' 25] := by
  subst hcs
  refine ⟨hL.below.setCell (Nat.le_refl _) _, fun P hP => ?_⟩
  rcases List.mem_cons.1 hP with rfl | hP
  · exact ⟨pBlk_st _ _ _, pe.oth (by omega) i u⟩
  · rcases List.mem_cons.1 hP with rfl | hP
    · exact ⟨pBlk_st _ _ _, pd.setI i u⟩
    · simp at hP
/-- What Unlay tells. -/
def UOut (w : World) (r : Option (Bool × Nat × Int)) (e : Ending) (w' : World) : Prop :=
  (r = none ∧ e = .returned (.tuple #[.agg #[.bool false, .slice none 0 0, .int .i64 0], .int .i64 2]) ∧ Below w.heap.size w w') ∨
  ∃ neg N k v, r = some (neg, N, k) ∧ e = .returned (.tuple #[.agg #[.bool neg, v, .int .i64 k], .int .i64 0]) ∧ IsT w' v 128 N ∧ Below w.heap.size w w'
end Go.Proofs.YtjhdkdfiadlmcaaGreatDoor
namespace Go.Proofs.YtjhdkdfiadlmcaaGreatDoor
open Go.RowKit Go.Cal
theorem strL_app (a b : List UInt8) : strL a ++ strL b = strL (a ++ b) := by
  unfold strL
  refine ByteArray.ext ?_
  simp
theorem three_ds (ds : List UInt8) : ds = [] ∨ (ds ≠ [] ∧ pOkL ds = true) ∨ (ds ≠ [] ∧ ¬ pOkL ds = true) := by
  by_cases h : ds = []
  · exact .inl h
  · by_cases h2 : pOkL ds = true
    · exact .inr (.inl ⟨h, h2⟩)
    · exact .inr (.inr ⟨h, h2⟩)
theorem isT_nil (w : World) (k : Nat) : IsT w (.slice none 0 0) k 0 := ⟨none, 0, [], rfl, .nil, Nat.le_refl _, by unfold maxLen; omega, by simp, .zero⟩
theorem isT_fit {w : World} {v : Value} {k N : Nat} (h : IsT w v k N) (hN : N < 18446744073709551616 ^ 128) : IsT w v 128 N := by
  obtain ⟨A, c, zs, h1, h2, h3, h4, h5, h6⟩ := h
  exact ⟨A, c, zs, h1, h2, h3, h4, h6.length_le hN, h6⟩
theorem num_bigG {N n e f : Nat} (h : n ≤ e) (hN : N < 10 ^ n) (hf : 4 * e ≤ 64 * f) : N < 18446744073709551616 ^ f := by
  have h1 : 10 ^ n ≤ 10 ^ e := Nat.pow_le_pow_right (by decide) h
  have h3 : 10 ^ e ≤ 16 ^ e := Nat.pow_le_pow_left (by decide) _
  have h4 : (16 : Nat) ^ e = 2 ^ (4 * e) := by rw [Nat.pow_mul]
  have h5 : (18446744073709551616 : Nat) ^ f = 2 ^ (64 * f) := by rw [Nat.pow_mul]
  have h6 : 2 ^ (4 * e) ≤ 2 ^ (64 * f) := Nat.pow_le_pow_right (by decide) hf
  omega
theorem num_big {N n : Nat} (h : n ≤ 2000) (hN : N < 10 ^ n) : N < 18446744073709551616 ^ 128 := num_bigG h hN (by decide)
theorem strL_toL' (l : List UInt8) : (strL l).toList = l := by unfold strL; rw [ByteArray.toList_mk]
theorem fin_some {l : List UInt8} {neg : Bool} {N : Nat} {k : Int} (hr : DRight N k) (hq : lyT neg N k = l) : finS l neg (some (N, k)) = some (neg, N, k) := by
  unfold finS
  exact if_pos ⟨hr, hq⟩
theorem fin_none {l : List UInt8} {neg : Bool} {N : Nat} {k : Int} (h : ¬ (DRight N k ∧ lyT neg N k = l)) : finS l neg (some (N, k)) = none := by
  unfold finS
  exact if_neg h
theorem fin_three (l : List UInt8) (neg : Bool) (N : Nat) (k : Int) : (DRight N k ∧ lyT neg N k = l) ∨ (DRight N k ∧ lyT neg N k ≠ l) ∨ ¬ DRight N k := by
  by_cases h : DRight N k
  · by_cases h2 : lyT neg N k = l
    · exact .inl ⟨h, h2⟩
    · exact .inr (.inl ⟨h, h2⟩)
  · exact .inr (.inr h)
set_option maxRecDepth 100000 in
set_option maxHeartbeats 4000000 in
theorem unlay_near (l : List UInt8) (hl : l.length ≤ 300000) (hfar : (cutC 101 (unT l).1).2.2 = false) (w : World) (hW : LyW w) : Calls Tryz.prog 15 #[.string (strL l)] w (UOut w (unS l)) := by
  replace hl : l.length ≤ 1000000 := by omega
  have hmf : ∀ (fn : Fn) (first cap : Array Value) (w : World), (Instr.makeFunc fn first cap).run Tryz.prog w = .ok (.func fn first cap) w := fun _ _ _ _ => rfl
  have hfin := unC_eq l hl
  obtain ⟨neg, hneg⟩ : ∃ x, (unT l).2 = x := ⟨_, rfl⟩
  obtain ⟨t, ht⟩ : ∃ x, (unT l).1 = x := ⟨_, rfl⟩
  have htl : t.length ≤ 1000000 := by rw [← ht]; exact Nat.le_trans (unT_le l) hl
  rw [ht] at hfar
  obtain ⟨c1, hc1⟩ : ∃ x, (cutC 101 t).1 = x := ⟨_, rfl⟩
  obtain ⟨x1, hx1⟩ : ∃ x, (cutC 101 t).2.1 = x := ⟨_, rfl⟩
  have hcl := cutC_le 101 t
  rw [hc1, hx1] at hcl
  obtain ⟨u, hu⟩ : ∃ x, (cutC 46 c1).1 = x := ⟨_, rfl⟩
  obtain ⟨p, hp⟩ : ∃ x, (cutC 46 c1).2.1 = x := ⟨_, rfl⟩
  obtain ⟨fp, hfp⟩ : ∃ x, (cutC 46 c1).2.2 = x := ⟨_, rfl⟩
  have hpl := cutC_le 46 c1
  rw [hu, hp] at hpl
  have hD : candD t = (u, p) := by unfold candD; rw [hc1, hu, hp]
  obtain ⟨al, hal⟩ : ∃ x, trL (u ++ p) = x := ⟨_, rfl⟩
  obtain ⟨ds, hds⟩ : ∃ x, trR al = x := ⟨_, rfl⟩
  have hall := trL_le (u ++ p)
  have hdsl := trR_le al
  rw [hal, List.length_append] at hall
  rw [hds] at hdsl
  have hup := strL_app u p
  have hsu := strL_size u
  have hsp := strL_size p
  have hsa := strL_size al
  have hsd := strL_size ds
  obtain ⟨ul, hul⟩ : ∃ x, u.length = x := ⟨_, rfl⟩
  obtain ⟨pl, hpl'⟩ : ∃ x, p.length = x := ⟨_, rfl⟩
  obtain ⟨a, ha⟩ : ∃ x, al.length = x := ⟨_, rfl⟩
  obtain ⟨b, hb⟩ : ∃ x, ds.length = x := ⟨_, rfl⟩
  have hrr : candBC t = (candAC t).bind fun k0 => if ds = [] then some (0, 0) else if pOkL ds = true then some (numV ds, candKC k0 al p) else none := by
    unfold candBC
    rw [hD]
    simp only [hal, hds]
  have hKK : ∀ k0, candKC k0 al p = IntKind.i64.wrap (k0 + (((a : Int) - (b : Int)) - (pl : Int))) := by
    intro k0
    unfold candKC
    rw [hds, ha, hb, hpl']
  rw [hul] at hsu
  rw [hpl'] at hsp
  rw [ha] at hsa
  rw [hb] at hsd
  rw [hul, hpl', ha] at hall
  rw [ha, hb] at hdsl
  have hcat : ul + pl ≤ 9223372036854775807 := by omega
  rw [ht, hneg] at hfin
  have hL := unlay_start w
  go_enter_defers Tryz.func15, Tryz.ntmps15
  go_wp2_with fail
  refine (cutp_any l _).mono ?_
  rintro e1 w1 ⟨rfl, rfl⟩
  rw [ht, hneg]
  go_wp2_with fail
  refine (lcut_any 101 t htl _ (hW.below hL.below).mx).mono ?_
  rintro e1 w2 ⟨rfl, hb2⟩
  replace hL := hL.go hb2
  clear hb2
  rw [hfar, hc1]
  go_wp2_with fail
  refine (lcut_any 46 c1 (by omega) _ (hW.below hL.below).mx).mono ?_
  rintro e1 w3 ⟨rfl, hb2⟩
  replace hL := hL.go hb2
  clear hb2
  rw [hu, hp, hfp]
  go_wp2_with fail
  refine (trimL_any (u ++ p) _).mono ?_
  rintro e1 w4 ⟨rfl, rfl⟩
  rw [hal]
  go_wp2_with fail
  refine (trimR_any al (by unfold maxLen; omega) _).mono ?_
  rintro e1 w4 ⟨rfl, rfl⟩
  rw [hds]
  have hA : candAC t = some 0 := by unfold candAC; rw [hfar]; rfl
  have pd := hL.get (P := pBlk w.heap.size #[.bool false, .slice none 0 0, .int .i64 0] 25) (by repeat (first | exact List.mem_cons_self | apply List.mem_cons_of_mem))
  have pe := hL.get (P := pBlk (w.heap.size + 1) #[.int .i64 0] 30) (by repeat (first | exact List.mem_cons_self | apply List.mem_cons_of_mem))
  have q0 := pd.cell 0 _ rfl
  have q1 := pd.cell 1 _ rfl
  have q2 := pd.cell 2 _ rfl
  have f0 := pd.free 0
  have f2 := pd.free 2
  rcases three_ds ds with hd0 | ⟨hd0, hpk⟩ | ⟨hd0, hpk⟩
  · have hE : (strL ds).toList.isEmpty = true := by unfold strL; rw [ByteArray.toList_mk, hd0]; rfl
    have hcand : candBC t = some (0, 0) := by rw [hrr, hA, Option.bind_some, if_pos hd0]
    replace hd0 := Lib.hid hd0
    go_wp2_with fail
    replace hL := live_set hL pd pe 2 (.int .i64 ((a : Int) - b - pl))
    replace hL := live_set hL (hL.get (P := pBlk w.heap.size #[.bool false, .slice none 0 0, .int .i64 ((a : Int) - b - pl)] 25) (by repeat (first | exact List.mem_cons_self | apply List.mem_cons_of_mem))) (hL.get (P := pBlk (w.heap.size + 1) #[.int .i64 0] 30) (by repeat (first | exact List.mem_cons_self | apply List.mem_cons_of_mem))) 0 (.bool neg)
    replace hL := live_set hL (hL.get (P := pBlk w.heap.size #[.bool neg, .slice none 0 0, .int .i64 ((a : Int) - b - pl)] 25) (by repeat (first | exact List.mem_cons_self | apply List.mem_cons_of_mem))) (hL.get (P := pBlk (w.heap.size + 1) #[.int .i64 0] 30) (by repeat (first | exact List.mem_cons_self | apply List.mem_cons_of_mem))) 2 (.int .i64 0)
    replace hL := hL.put (pT_st _ _ _) (isT_nil _ 128)
    have hcs : ∀ x ∈ (#[.bool neg, .slice none 0 0, .int .i64 0] : Array Value).toList, ∀ n, x ≠ .int .u64 n := by simp
    have hce : ∀ x ∈ (#[.int .i64 0] : Array Value).toList, ∀ n, x ≠ .int .u64 n := by simp
    clear pd pe q0 q1 q2 f0 f2
    rcases fin_three l neg 0 0 with ⟨hr, hq⟩ | ⟨hr, hq⟩ | hr
    · have hres := Lib.hid (hfin.symm.trans (show finS l neg (candBC t) = some (neg, 0, 0) by rw [hcand]; exact fin_some hr hq))
      have hX2 : lyR neg 0 0 = l := by unfold lyR; rw [if_pos hr, hq]
      have hrt := right_t neg 0 (hW.below hL.below).tab (hL.get (P := pT (.slice none 0 0) 128 0) (by repeat (first | exact List.mem_cons_self | apply List.mem_cons_of_mem)))
      rw [decide_eq_true hr] at hrt
      replace hrt := Lib.hid hrt
      replace hr := Lib.hid hr
      replace hq := Lib.hid hq
      refine hrt.out.mono ?_
      rintro e1 w6 ⟨rfl, hb6⟩
      replace hL := hL.go hb6
      clear hb6 hrt
      have pd := hL.get (P := pBlk w.heap.size #[.bool neg, (.slice none 0 0), .int .i64 0] 25) (by repeat (first | exact List.mem_cons_self | apply List.mem_cons_of_mem))
      have q0 := pd.cell 0 _ rfl
      have q1 := pd.cell 1 _ rfl
      have q2 := pd.cell 2 _ rfl
      have hly := layout_any neg 0 (hW.below hL.below).tab (hL.get (P := pT (.slice none 0 0) 128 0) (by repeat (first | exact List.mem_cons_self | apply List.mem_cons_of_mem)))
      rw [hX2] at hly
      clear hX2
      replace hly := Lib.hid hly
      go_wp2_with fail
      refine hly.out.mono ?_
      rintro e1 w7 ⟨rfl, hb6⟩
      replace hL := hL.go hb6
      clear hb6 hly q0 q1 q2 pd
      go_wp2_with fail
      refine (lmust_yes _).mono ?_
      rintro e1 w8 ⟨rfl, rfl⟩
      have pd := hL.get (P := pBlk w.heap.size #[.bool neg, (.slice none 0 0), .int .i64 0] 25) (by repeat (first | exact List.mem_cons_self | apply List.mem_cons_of_mem))
      have pe := hL.get (P := pBlk (w.heap.size + 1) #[.int .i64 0] 30) (by repeat (first | exact List.mem_cons_self | apply List.mem_cons_of_mem))
      have hv := hL.get (P := pT (.slice none 0 0) 128 0) (by repeat (first | exact List.mem_cons_self | apply List.mem_cons_of_mem))
      have hbl := hL.below
      have q0 := pd.cell 0 _ rfl
      have q1 := pd.cell 1 _ rfl
      have q2 := pd.cell 2 _ rfl
      have q3 := pe.cell 0 _ rfl
      have f0 := pd.free 0
      have f1 := pd.free 1
      have f2 := pd.free 2
      have f3 := pe.free 0
      have pdf := (((pd.setI 0 (.bool neg)).setI 1 (.slice none 0 0)).setI 2 (.int .i64 0)).oth (g' := w.heap.size + 1) (by omega) 0 (.int .i64 0)
      have pef := (((pe.oth (g' := w.heap.size) (by omega) 0 (.bool neg)).oth (g' := w.heap.size) (by omega) 1 (.slice none 0 0)).oth (g' := w.heap.size) (by omega) 2 (.int .i64 0)).setI 0 (.int .i64 0)
      have hvf := (((IsT.apartB (i := 0) (u := .bool neg) hv pd hcs).apartB (i := 1) (u := (.slice none 0 0)) (pd.setI 0 (.bool neg)) hcs).apartB (i := 2) (u := .int .i64 0) ((pd.setI 0 (.bool neg)).setI 1 (.slice none 0 0)) hcs).apartB (i := 0) (u := .int .i64 0) (((pe.oth (g' := w.heap.size) (by omega) 0 (.bool neg)).oth (g' := w.heap.size) (by omega) 1 (.slice none 0 0)).oth (g' := w.heap.size) (by omega) 2 (.int .i64 0)) hce
      have hbf := (((hbl.setCell (p := ⟨w.heap.size, 0, none⟩) (Nat.le_refl _) (.bool neg)).setCell (p := ⟨w.heap.size, 1, none⟩) (Nat.le_refl _) (.slice none 0 0)).setCell (p := ⟨w.heap.size, 2, none⟩) (Nat.le_refl _) (.int .i64 0)).setCell (p := ⟨w.heap.size + 1, 0, none⟩) (Nat.le_succ _) (.int .i64 0)
      have y0 := pdf.cell 0 _ rfl
      have y1 := pdf.cell 1 _ rfl
      have y2 := pdf.cell 2 _ rfl
      have y3 := pef.cell 0 _ rfl
      clear hL hbl
      go_wp2
      show Leaves _ _ _ _ _ .returning _
      refine leaves_cons (f := 35) (args := #[.pointer (some ⟨w.heap.size, 0, none⟩), .pointer (some ⟨w.heap.size + 1, 0, none⟩)]) (by simp) (by simp [go_sem]) ?_
      refine (lcatch_idle w.heap.size _).mono ?_
      rintro e1 u1 w8 ⟨rfl, rfl, rfl⟩
      simp [Leaves, settle, results, Tryz.results15, go_sem, y0, y1, y2, y3]
      exact .inr ⟨neg, _, _, _, hres.out, rfl, hvf, hbf⟩
    · have hres := Lib.hid (hfin.symm.trans (show finS l neg (candBC t) = none by rw [hcand]; exact fin_none fun h => hq h.2))
      have hX : ((strL (lyR neg 0 0)).toList == (strL l).toList) = false := by
        unfold lyR
        rw [if_pos hr, strL_toL', strL_toL', beq_eq_false_iff_ne]
        exact hq
      obtain ⟨X, hXe⟩ : ∃ X, strL (lyR neg 0 0) = X := ⟨_, rfl⟩
      rw [hXe] at hX
      have hrt := right_t neg 0 (hW.below hL.below).tab (hL.get (P := pT (.slice none 0 0) 128 0) (by repeat (first | exact List.mem_cons_self | apply List.mem_cons_of_mem)))
      rw [decide_eq_true hr] at hrt
      replace hrt := Lib.hid hrt
      replace hr := Lib.hid hr
      replace hq := Lib.hid hq
      refine hrt.out.mono ?_
      rintro e1 w6 ⟨rfl, hb6⟩
      replace hL := hL.go hb6
      clear hb6 hrt
      have pd := hL.get (P := pBlk w.heap.size #[.bool neg, (.slice none 0 0), .int .i64 0] 25) (by repeat (first | exact List.mem_cons_self | apply List.mem_cons_of_mem))
      have q0 := pd.cell 0 _ rfl
      have q1 := pd.cell 1 _ rfl
      have q2 := pd.cell 2 _ rfl
      have hly := layout_any neg 0 (hW.below hL.below).tab (hL.get (P := pT (.slice none 0 0) 128 0) (by repeat (first | exact List.mem_cons_self | apply List.mem_cons_of_mem)))
      rw [hXe] at hly
      clear hXe
      replace hly := Lib.hid hly
      go_wp2_with fail
      refine hly.out.mono ?_
      rintro e1 w7 ⟨rfl, hb6⟩
      replace hL := hL.go hb6
      clear hb6 hly q0 q1 q2 pd
      go_wp2_with fail
      refine (lmust_no _).mono ?_
      rintro e1 w8 ⟨rfl, rfl⟩
      have pd := hL.get (P := pBlk w.heap.size #[.bool neg, (.slice none 0 0), .int .i64 0] 25) (by repeat (first | exact List.mem_cons_self | apply List.mem_cons_of_mem))
      have pe := hL.get (P := pBlk (w.heap.size + 1) #[.int .i64 0] 30) (by repeat (first | exact List.mem_cons_self | apply List.mem_cons_of_mem))
      have hbl := hL.below
      clear hL
      go_wp2
      refine leaves_cons (f := 35) (args := #[.pointer (some ⟨w.heap.size, 0, none⟩), .pointer (some ⟨w.heap.size + 1, 0, none⟩)]) (by simp) (by simp [go_sem]) ?_
      refine (lcatch_thrown w.heap.size [] _ pd pe).mono ?_
      rintro e1 u1 w8 ⟨rfl, rfl, pd8, pe8, hb8⟩
      have y0 := pd8.cell 0 _ rfl
      have y1 := pd8.cell 1 _ rfl
      have y2 := pd8.cell 2 _ rfl
      have y3 := pe8.cell 0 _ rfl
      have hbf := hbl.trans hb8
      simp [Leaves, settle, results, Tryz.results15, go_sem, y0, y1, y2, y3]
      exact .inl ⟨hres.out, rfl, hbf⟩
    · have hres := Lib.hid (hfin.symm.trans (show finS l neg (candBC t) = none by rw [hcand]; exact fin_none fun h => hr h.1))
      have hrt := right_t neg 0 (hW.below hL.below).tab (hL.get (P := pT (.slice none 0 0) 128 0) (by repeat (first | exact List.mem_cons_self | apply List.mem_cons_of_mem)))
      rw [decide_eq_false hr] at hrt
      replace hrt := Lib.hid hrt
      replace hr := Lib.hid hr
      refine hrt.out.mono ?_
      rintro e1 w6 ⟨rfl, hb6⟩
      replace hL := hL.go hb6
      clear hb6 hrt
      go_wp2_with fail
      refine (lmust_no _).mono ?_
      rintro e1 w8 ⟨rfl, rfl⟩
      have pd := hL.get (P := pBlk w.heap.size #[.bool neg, (.slice none 0 0), .int .i64 0] 25) (by repeat (first | exact List.mem_cons_self | apply List.mem_cons_of_mem))
      have pe := hL.get (P := pBlk (w.heap.size + 1) #[.int .i64 0] 30) (by repeat (first | exact List.mem_cons_self | apply List.mem_cons_of_mem))
      have hbl := hL.below
      clear hL
      go_wp2
      refine leaves_cons (f := 35) (args := #[.pointer (some ⟨w.heap.size, 0, none⟩), .pointer (some ⟨w.heap.size + 1, 0, none⟩)]) (by simp) (by simp [go_sem]) ?_
      refine (lcatch_thrown w.heap.size [] _ pd pe).mono ?_
      rintro e1 u1 w8 ⟨rfl, rfl, pd8, pe8, hb8⟩
      have y0 := pd8.cell 0 _ rfl
      have y1 := pd8.cell 1 _ rfl
      have y2 := pd8.cell 2 _ rfl
      have y3 := pe8.cell 0 _ rfl
      have hbf := hbl.trans hb8
      simp [Leaves, settle, results, Tryz.results15, go_sem, y0, y1, y2, y3]
      exact .inl ⟨hres.out, rfl, hbf⟩
  · have hE : (strL ds).toList.isEmpty = false := by unfold strL; rw [ByteArray.toList_mk]; simpa using hd0
    have hcand : candBC t = some (numV ds, ((a : Int) - b - pl)) := by rw [hrr, hA, Option.bind_some, if_neg hd0, if_pos hpk, hKK]; exact congrArg (fun x => some (numV ds, x)) (by unfold IntKind.wrap IntKind.bits IntKind.signed; simp; omega)
    have hpo : POk (strL ds).data.toList := (pOk_iff ds).2 hpk
    have hpn : numV ds < 18446744073709551616 ^ 128 := by
      obtain ⟨_, h2, _, h4⟩ := hpo
      have h5 := numV_lt ds h4
      exact num_big h2 h5
    replace hd0 := Lib.hid hd0
    replace hpk := Lib.hid hpk
    replace hpn := Lib.hid hpn
    go_wp2_with fail
    refine (parse_t _ (strL ds) hpo).mono ?_
    rintro e1 w5 ⟨v, rfl, hv0, hb5⟩
    replace hL := live_set hL pd pe 2 (.int .i64 ((a : Int) - b - pl))
    replace hL := live_set hL (hL.get (P := pBlk w.heap.size #[.bool false, .slice none 0 0, .int .i64 ((a : Int) - b - pl)] 25) (by repeat (first | exact List.mem_cons_self | apply List.mem_cons_of_mem))) (hL.get (P := pBlk (w.heap.size + 1) #[.int .i64 0] 30) (by repeat (first | exact List.mem_cons_self | apply List.mem_cons_of_mem))) 0 (.bool neg)
    replace hL := hL.go hb5
    have hv : IsT w5 v 128 (numV ds) := isT_fit hv0 hpn.out
    obtain ⟨A9, c9, zs, rfl, hvr⟩ := id hv
    clear hvr hv0 hb5 pd pe q0 q1 q2 f0 f2 hpo
    obtain ⟨n9, hn9⟩ : ∃ n, zs.length = n := ⟨_, rfl⟩
    rw [hn9] at hv ⊢
    clear hn9
    have pd := hL.get (P := pBlk w.heap.size #[.bool neg, .slice none 0 0, .int .i64 ((a : Int) - b - pl)] 25) (by repeat (first | exact List.mem_cons_self | apply List.mem_cons_of_mem))
    have pe := hL.get (P := pBlk (w.heap.size + 1) #[.int .i64 0] 30) (by repeat (first | exact List.mem_cons_self | apply List.mem_cons_of_mem))
    have q0 := pd.cell 0 _ rfl
    have q1 := pd.cell 1 _ rfl
    have q2 := pd.cell 2 _ rfl
    have f1 := pd.free 1
    go_wp2_with fail
    refine (lmust_yes _).mono ?_
    rintro e1 w8 ⟨rfl, rfl⟩
    have hv' := IsT.apartB (i := 1) (u := .slice A9 n9 c9) hv pd (by simp)
    replace hL := (live_set hL pd pe 1 (.slice A9 n9 c9)).put (pT_st _ _ _) hv'
    have hcs : ∀ x ∈ (#[.bool neg, .slice A9 n9 c9, .int .i64 ((a : Int) - b - pl)] : Array Value).toList, ∀ n, x ≠ .int .u64 n := by simp
    have hce : ∀ x ∈ (#[.int .i64 0] : Array Value).toList, ∀ n, x ≠ .int .u64 n := by simp
    go_wp2_with fail
    clear pd pe q0 q1 q2 f1 hv hv'
    obtain ⟨N, hN⟩ : ∃ N, numV ds = N := ⟨_, rfl⟩
    rw [hN] at hcand hL
    clear hN
    rcases fin_three l neg N ((a : Int) - b - pl) with ⟨hr, hq⟩ | ⟨hr, hq⟩ | hr
    · have hres := Lib.hid (hfin.symm.trans (show finS l neg (candBC t) = some (neg, N, ((a : Int) - b - pl)) by rw [hcand]; exact fin_some hr hq))
      have hX2 : lyR neg N ((a : Int) - b - pl) = l := by unfold lyR; rw [if_pos hr, hq]
      have hrt := right_t neg ((a : Int) - b - pl) (hW.below hL.below).tab (hL.get (P := pT (.slice A9 n9 c9) 128 N) (by repeat (first | exact List.mem_cons_self | apply List.mem_cons_of_mem)))
      rw [decide_eq_true hr] at hrt
      replace hrt := Lib.hid hrt
      replace hr := Lib.hid hr
      replace hq := Lib.hid hq
      refine hrt.out.mono ?_
      rintro e1 w6 ⟨rfl, hb6⟩
      replace hL := hL.go hb6
      clear hb6 hrt
      have pd := hL.get (P := pBlk w.heap.size #[.bool neg, (.slice A9 n9 c9), .int .i64 ((a : Int) - b - pl)] 25) (by repeat (first | exact List.mem_cons_self | apply List.mem_cons_of_mem))
      have q0 := pd.cell 0 _ rfl
      have q1 := pd.cell 1 _ rfl
      have q2 := pd.cell 2 _ rfl
      have hly := layout_any neg ((a : Int) - b - pl) (hW.below hL.below).tab (hL.get (P := pT (.slice A9 n9 c9) 128 N) (by repeat (first | exact List.mem_cons_self | apply List.mem_cons_of_mem)))
      rw [hX2] at hly
      clear hX2
      replace hly := Lib.hid hly
      go_wp2_with fail
      refine hly.out.mono ?_
      rintro e1 w7 ⟨rfl, hb6⟩
      replace hL := hL.go hb6
      clear hb6 hly q0 q1 q2 pd
      go_wp2_with fail
      refine (lmust_yes _).mono ?_
      rintro e1 w8 ⟨rfl, rfl⟩
      have pd := hL.get (P := pBlk w.heap.size #[.bool neg, (.slice A9 n9 c9), .int .i64 ((a : Int) - b - pl)] 25) (by repeat (first | exact List.mem_cons_self | apply List.mem_cons_of_mem))
      have pe := hL.get (P := pBlk (w.heap.size + 1) #[.int .i64 0] 30) (by repeat (first | exact List.mem_cons_self | apply List.mem_cons_of_mem))
      have hv := hL.get (P := pT (.slice A9 n9 c9) 128 N) (by repeat (first | exact List.mem_cons_self | apply List.mem_cons_of_mem))
      have hbl := hL.below
      have q0 := pd.cell 0 _ rfl
      have q1 := pd.cell 1 _ rfl
      have q2 := pd.cell 2 _ rfl
      have q3 := pe.cell 0 _ rfl
      have f0 := pd.free 0
      have f1 := pd.free 1
      have f2 := pd.free 2
      have f3 := pe.free 0
      have pdf := (((pd.setI 0 (.bool neg)).setI 1 (.slice A9 n9 c9)).setI 2 (.int .i64 ((a : Int) - b - pl))).oth (g' := w.heap.size + 1) (by omega) 0 (.int .i64 0)
      have pef := (((pe.oth (g' := w.heap.size) (by omega) 0 (.bool neg)).oth (g' := w.heap.size) (by omega) 1 (.slice A9 n9 c9)).oth (g' := w.heap.size) (by omega) 2 (.int .i64 ((a : Int) - b - pl))).setI 0 (.int .i64 0)
      have hvf := (((IsT.apartB (i := 0) (u := .bool neg) hv pd hcs).apartB (i := 1) (u := (.slice A9 n9 c9)) (pd.setI 0 (.bool neg)) hcs).apartB (i := 2) (u := .int .i64 ((a : Int) - b - pl)) ((pd.setI 0 (.bool neg)).setI 1 (.slice A9 n9 c9)) hcs).apartB (i := 0) (u := .int .i64 0) (((pe.oth (g' := w.heap.size) (by omega) 0 (.bool neg)).oth (g' := w.heap.size) (by omega) 1 (.slice A9 n9 c9)).oth (g' := w.heap.size) (by omega) 2 (.int .i64 ((a : Int) - b - pl))) hce
      have hbf := (((hbl.setCell (p := ⟨w.heap.size, 0, none⟩) (Nat.le_refl _) (.bool neg)).setCell (p := ⟨w.heap.size, 1, none⟩) (Nat.le_refl _) (.slice A9 n9 c9)).setCell (p := ⟨w.heap.size, 2, none⟩) (Nat.le_refl _) (.int .i64 ((a : Int) - b - pl))).setCell (p := ⟨w.heap.size + 1, 0, none⟩) (Nat.le_succ _) (.int .i64 0)
      have y0 := pdf.cell 0 _ rfl
      have y1 := pdf.cell 1 _ rfl
      have y2 := pdf.cell 2 _ rfl
      have y3 := pef.cell 0 _ rfl
      clear hL hbl
      go_wp2
      show Leaves _ _ _ _ _ .returning _
      refine leaves_cons (f := 35) (args := #[.pointer (some ⟨w.heap.size, 0, none⟩), .pointer (some ⟨w.heap.size + 1, 0, none⟩)]) (by simp) (by simp [go_sem]) ?_
      refine (lcatch_idle w.heap.size _).mono ?_
      rintro e1 u1 w8 ⟨rfl, rfl, rfl⟩
      simp [Leaves, settle, results, Tryz.results15, go_sem, y0, y1, y2, y3]
      exact .inr ⟨neg, _, _, _, hres.out, rfl, hvf, hbf⟩
    · have hres := Lib.hid (hfin.symm.trans (show finS l neg (candBC t) = none by rw [hcand]; exact fin_none fun h => hq h.2))
      have hX : ((strL (lyR neg N ((a : Int) - b - pl))).toList == (strL l).toList) = false := by
        unfold lyR
        rw [if_pos hr, strL_toL', strL_toL', beq_eq_false_iff_ne]
        exact hq
      obtain ⟨X, hXe⟩ : ∃ X, strL (lyR neg N ((a : Int) - b - pl)) = X := ⟨_, rfl⟩
      rw [hXe] at hX
      have hrt := right_t neg ((a : Int) - b - pl) (hW.below hL.below).tab (hL.get (P := pT (.slice A9 n9 c9) 128 N) (by repeat (first | exact List.mem_cons_self | apply List.mem_cons_of_mem)))
      rw [decide_eq_true hr] at hrt
      replace hrt := Lib.hid hrt
      replace hr := Lib.hid hr
      replace hq := Lib.hid hq
      refine hrt.out.mono ?_
      rintro e1 w6 ⟨rfl, hb6⟩
      replace hL := hL.go hb6
      clear hb6 hrt
      have pd := hL.get (P := pBlk w.heap.size #[.bool neg, (.slice A9 n9 c9), .int .i64 ((a : Int) - b - pl)] 25) (by repeat (first | exact List.mem_cons_self | apply List.mem_cons_of_mem))
      have q0 := pd.cell 0 _ rfl
      have q1 := pd.cell 1 _ rfl
      have q2 := pd.cell 2 _ rfl
      have hly := layout_any neg ((a : Int) - b - pl) (hW.below hL.below).tab (hL.get (P := pT (.slice A9 n9 c9) 128 N) (by repeat (first | exact List.mem_cons_self | apply List.mem_cons_of_mem)))
      rw [hXe] at hly
      clear hXe
      replace hly := Lib.hid hly
      go_wp2_with fail
      refine hly.out.mono ?_
      rintro e1 w7 ⟨rfl, hb6⟩
      replace hL := hL.go hb6
      clear hb6 hly q0 q1 q2 pd
      go_wp2_with fail
      refine (lmust_no _).mono ?_
      rintro e1 w8 ⟨rfl, rfl⟩
      have pd := hL.get (P := pBlk w.heap.size #[.bool neg, (.slice A9 n9 c9), .int .i64 ((a : Int) - b - pl)] 25) (by repeat (first | exact List.mem_cons_self | apply List.mem_cons_of_mem))
      have pe := hL.get (P := pBlk (w.heap.size + 1) #[.int .i64 0] 30) (by repeat (first | exact List.mem_cons_self | apply List.mem_cons_of_mem))
      have hbl := hL.below
      clear hL
      go_wp2
      refine leaves_cons (f := 35) (args := #[.pointer (some ⟨w.heap.size, 0, none⟩), .pointer (some ⟨w.heap.size + 1, 0, none⟩)]) (by simp) (by simp [go_sem]) ?_
      refine (lcatch_thrown w.heap.size [] _ pd pe).mono ?_
      rintro e1 u1 w8 ⟨rfl, rfl, pd8, pe8, hb8⟩
      have y0 := pd8.cell 0 _ rfl
      have y1 := pd8.cell 1 _ rfl
      have y2 := pd8.cell 2 _ rfl
      have y3 := pe8.cell 0 _ rfl
      have hbf := hbl.trans hb8
      simp [Leaves, settle, results, Tryz.results15, go_sem, y0, y1, y2, y3]
      exact .inl ⟨hres.out, rfl, hbf⟩
    · have hres := Lib.hid (hfin.symm.trans (show finS l neg (candBC t) = none by rw [hcand]; exact fin_none fun h => hr h.1))
      have hrt := right_t neg ((a : Int) - b - pl) (hW.below hL.below).tab (hL.get (P := pT (.slice A9 n9 c9) 128 N) (by repeat (first | exact List.mem_cons_self | apply List.mem_cons_of_mem)))
      rw [decide_eq_false hr] at hrt
      replace hrt := Lib.hid hrt
      replace hr := Lib.hid hr
      refine hrt.out.mono ?_
      rintro e1 w6 ⟨rfl, hb6⟩
      replace hL := hL.go hb6
      clear hb6 hrt
      go_wp2_with fail
      refine (lmust_no _).mono ?_
      rintro e1 w8 ⟨rfl, rfl⟩
      have pd := hL.get (P := pBlk w.heap.size #[.bool neg, (.slice A9 n9 c9), .int .i64 ((a : Int) - b - pl)] 25) (by repeat (first | exact List.mem_cons_self | apply List.mem_cons_of_mem))
      have pe := hL.get (P := pBlk (w.heap.size + 1) #[.int .i64 0] 30) (by repeat (first | exact List.mem_cons_self | apply List.mem_cons_of_mem))
      have hbl := hL.below
      clear hL
      go_wp2
      refine leaves_cons (f := 35) (args := #[.pointer (some ⟨w.heap.size, 0, none⟩), .pointer (some ⟨w.heap.size + 1, 0, none⟩)]) (by simp) (by simp [go_sem]) ?_
      refine (lcatch_thrown w.heap.size [] _ pd pe).mono ?_
      rintro e1 u1 w8 ⟨rfl, rfl, pd8, pe8, hb8⟩
      have y0 := pd8.cell 0 _ rfl
      have y1 := pd8.cell 1 _ rfl
      have y2 := pd8.cell 2 _ rfl
      have y3 := pe8.cell 0 _ rfl
      have hbf := hbl.trans hb8
      simp [Leaves, settle, results, Tryz.results15, go_sem, y0, y1, y2, y3]
      exact .inl ⟨hres.out, rfl, hbf⟩
  · have hE : (strL ds).toList.isEmpty = false := by unfold strL; rw [ByteArray.toList_mk]; simpa using hd0
    have hcand : candBC t = none := by rw [hrr, hA, Option.bind_some, if_neg hd0, if_neg hpk]
    have hres := Lib.hid (hfin.symm.trans (show finS l neg (candBC t) = none by rw [hcand]; rfl))
    have hpo : ¬ POk (strL ds).data.toList := fun h => hpk ((pOk_iff ds).1 h)
    replace hd0 := Lib.hid hd0
    replace hpk := Lib.hid hpk
    go_wp2_with fail
    refine (parse_no (strL ds) _ (by rw [hsd]; unfold maxLen; omega) hpo).mono ?_
    rintro e1 w5 ⟨rfl, hb5⟩
    replace hL := live_set hL pd pe 2 (.int .i64 ((a : Int) - b - pl))
    replace hL := live_set hL (hL.get (P := pBlk w.heap.size #[.bool false, .slice none 0 0, .int .i64 ((a : Int) - b - pl)] 25) (by repeat (first | exact List.mem_cons_self | apply List.mem_cons_of_mem))) (hL.get (P := pBlk (w.heap.size + 1) #[.int .i64 0] 30) (by repeat (first | exact List.mem_cons_self | apply List.mem_cons_of_mem))) 0 (.bool neg)
    replace hL := hL.go hb5
    clear hb5 pd pe q0 q1 q2 f0 f2 hpo
    have pd := hL.get (P := pBlk w.heap.size #[.bool neg, .slice none 0 0, .int .i64 ((a : Int) - b - pl)] 25) (by repeat (first | exact List.mem_cons_self | apply List.mem_cons_of_mem))
    have pe := hL.get (P := pBlk (w.heap.size + 1) #[.int .i64 0] 30) (by repeat (first | exact List.mem_cons_self | apply List.mem_cons_of_mem))
    have q0 := pd.cell 0 _ rfl
    have q1 := pd.cell 1 _ rfl
    have q2 := pd.cell 2 _ rfl
    have f1 := pd.free 1
    go_wp2_with fail
    refine (lmust_no _).mono ?_
    rintro e1 w8 ⟨rfl, rfl⟩
    replace hL := live_set hL pd pe 1 (.slice none 0 0)
    clear pd pe q0 q1 q2 f1
    skip
    have pd := hL.get (P := pBlk w.heap.size #[.bool neg, (.slice none 0 0), .int .i64 ((a : Int) - b - pl)] 25) (by repeat (first | exact List.mem_cons_self | apply List.mem_cons_of_mem))
    have pe := hL.get (P := pBlk (w.heap.size + 1) #[.int .i64 0] 30) (by repeat (first | exact List.mem_cons_self | apply List.mem_cons_of_mem))
    have hbl := hL.below
    clear hL
    go_wp2
    refine leaves_cons (f := 35) (args := #[.pointer (some ⟨w.heap.size, 0, none⟩), .pointer (some ⟨w.heap.size + 1, 0, none⟩)]) (by simp) (by simp [go_sem]) ?_
    refine (lcatch_thrown w.heap.size [] _ pd pe).mono ?_
    rintro e1 u1 w8 ⟨rfl, rfl, pd8, pe8, hb8⟩
    have y0 := pd8.cell 0 _ rfl
    have y1 := pd8.cell 1 _ rfl
    have y2 := pd8.cell 2 _ rfl
    have y3 := pe8.cell 0 _ rfl
    have hbf := hbl.trans hb8
    simp [Leaves, settle, results, Tryz.results15, go_sem, y0, y1, y2, y3]
    exact .inl ⟨hres.out, rfl, hbf⟩
set_option maxRecDepth 100000 in
set_option maxHeartbeats 4000000 in
theorem unlay_far (l : List UInt8) (hl : l.length ≤ 300000) (hfar : (cutC 101 (unT l).1).2.2 = true) (k0 : Int) (hpw : powC (cutC 101 (unT l).1).2.1 = some k0) (w : World) (hW : LyW w) : Calls Tryz.prog 15 #[.string (strL l)] w (UOut w (unS l)) := by
  replace hl : l.length ≤ 1000000 := by omega
  have hmf : ∀ (fn : Fn) (first cap : Array Value) (w : World), (Instr.makeFunc fn first cap).run Tryz.prog w = .ok (.func fn first cap) w := fun _ _ _ _ => rfl
  have hfin := unC_eq l hl
  obtain ⟨neg, hneg⟩ : ∃ x, (unT l).2 = x := ⟨_, rfl⟩
  obtain ⟨t, ht⟩ : ∃ x, (unT l).1 = x := ⟨_, rfl⟩
  have htl : t.length ≤ 1000000 := by rw [← ht]; exact Nat.le_trans (unT_le l) hl
  rw [ht] at hfar
  obtain ⟨c1, hc1⟩ : ∃ x, (cutC 101 t).1 = x := ⟨_, rfl⟩
  obtain ⟨x1, hx1⟩ : ∃ x, (cutC 101 t).2.1 = x := ⟨_, rfl⟩
  have hcl := cutC_le 101 t
  rw [hc1, hx1] at hcl
  obtain ⟨u, hu⟩ : ∃ x, (cutC 46 c1).1 = x := ⟨_, rfl⟩
  obtain ⟨p, hp⟩ : ∃ x, (cutC 46 c1).2.1 = x := ⟨_, rfl⟩
  obtain ⟨fp, hfp⟩ : ∃ x, (cutC 46 c1).2.2 = x := ⟨_, rfl⟩
  have hpl := cutC_le 46 c1
  rw [hu, hp] at hpl
  have hD : candD t = (u, p) := by unfold candD; rw [hc1, hu, hp]
  obtain ⟨al, hal⟩ : ∃ x, trL (u ++ p) = x := ⟨_, rfl⟩
  obtain ⟨ds, hds⟩ : ∃ x, trR al = x := ⟨_, rfl⟩
  have hall := trL_le (u ++ p)
  have hdsl := trR_le al
  rw [hal, List.length_append] at hall
  rw [hds] at hdsl
  have hup := strL_app u p
  have hsu := strL_size u
  have hsp := strL_size p
  have hsa := strL_size al
  have hsd := strL_size ds
  obtain ⟨ul, hul⟩ : ∃ x, u.length = x := ⟨_, rfl⟩
  obtain ⟨pl, hpl'⟩ : ∃ x, p.length = x := ⟨_, rfl⟩
  obtain ⟨a, ha⟩ : ∃ x, al.length = x := ⟨_, rfl⟩
  obtain ⟨b, hb⟩ : ∃ x, ds.length = x := ⟨_, rfl⟩
  have hrr : candBC t = (candAC t).bind fun k0 => if ds = [] then some (0, 0) else if pOkL ds = true then some (numV ds, candKC k0 al p) else none := by
    unfold candBC
    rw [hD]
    simp only [hal, hds]
  have hKK : ∀ k0, candKC k0 al p = IntKind.i64.wrap (k0 + (((a : Int) - (b : Int)) - (pl : Int))) := by
    intro k0
    unfold candKC
    rw [hds, ha, hb, hpl']
  rw [hul] at hsu
  rw [hpl'] at hsp
  rw [ha] at hsa
  rw [hb] at hsd
  rw [hul, hpl', ha] at hall
  rw [ha, hb] at hdsl
  have hcat : ul + pl ≤ 9223372036854775807 := by omega
  rw [ht, hneg] at hfin
  rw [ht, hx1] at hpw
  have hL := unlay_start w
  go_enter_defers Tryz.func15, Tryz.ntmps15
  go_wp2_with fail
  refine (cutp_any l _).mono ?_
  rintro e1 w1 ⟨rfl, rfl⟩
  rw [ht, hneg]
  go_wp2_with fail
  refine (lcut_any 101 t htl _ (hW.below hL.below).mx).mono ?_
  rintro e1 w2 ⟨rfl, hb2⟩
  replace hL := hL.go hb2
  clear hb2
  rw [hfar, hc1, hx1]
  go_wp2_with fail
  refine (power_yes x1 (by omega) k0 hpw _).mono ?_
  rintro e1 w9 ⟨rfl, hb2⟩
  replace hL := hL.go hb2
  clear hb2
  have pd := hL.get (P := pBlk w.heap.size #[.bool false, .slice none 0 0, .int .i64 0] 25) (by repeat (first | exact List.mem_cons_self | apply List.mem_cons_of_mem))
  have pe := hL.get (P := pBlk (w.heap.size + 1) #[.int .i64 0] 30) (by repeat (first | exact List.mem_cons_self | apply List.mem_cons_of_mem))
  have q2 := pd.cell 2 _ rfl
  have f2 := pd.free 2
  go_wp2_with fail
  replace hL := live_set hL pd pe 2 (.int .i64 k0)
  clear pd pe q2 f2
  refine (lcut_any 46 c1 (by omega) _ (hW.below hL.below).mx).mono ?_
  rintro e1 w3 ⟨rfl, hb2⟩
  replace hL := hL.go hb2
  clear hb2
  rw [hu, hp, hfp]
  go_wp2_with fail
  refine (trimL_any (u ++ p) _).mono ?_
  rintro e1 w4 ⟨rfl, rfl⟩
  rw [hal]
  go_wp2_with fail
  refine (trimR_any al (by unfold maxLen; omega) _).mono ?_
  rintro e1 w4 ⟨rfl, rfl⟩
  rw [hds]
  have hA : candAC t = some k0 := by unfold candAC; rw [hfar, if_pos rfl, hx1, hpw]
  have pd := hL.get (P := pBlk w.heap.size #[.bool false, .slice none 0 0, .int .i64 k0] 25) (by repeat (first | exact List.mem_cons_self | apply List.mem_cons_of_mem))
  have pe := hL.get (P := pBlk (w.heap.size + 1) #[.int .i64 0] 30) (by repeat (first | exact List.mem_cons_self | apply List.mem_cons_of_mem))
  have q0 := pd.cell 0 _ rfl
  have q1 := pd.cell 1 _ rfl
  have q2 := pd.cell 2 _ rfl
  have f0 := pd.free 0
  have f2 := pd.free 2
  rcases three_ds ds with hd0 | ⟨hd0, hpk⟩ | ⟨hd0, hpk⟩
  · have hE : (strL ds).toList.isEmpty = true := by unfold strL; rw [ByteArray.toList_mk, hd0]; rfl
    have hcand : candBC t = some (0, 0) := by rw [hrr, hA, Option.bind_some, if_pos hd0]
    replace hd0 := Lib.hid hd0
    go_wp2_with fail
    replace hL := live_set hL pd pe 2 (.int .i64 (wrap64 (k0 + ((a : Int) - b - pl))))
    replace hL := live_set hL (hL.get (P := pBlk w.heap.size #[.bool false, .slice none 0 0, .int .i64 (wrap64 (k0 + ((a : Int) - b - pl)))] 25) (by repeat (first | exact List.mem_cons_self | apply List.mem_cons_of_mem))) (hL.get (P := pBlk (w.heap.size + 1) #[.int .i64 0] 30) (by repeat (first | exact List.mem_cons_self | apply List.mem_cons_of_mem))) 0 (.bool neg)
    replace hL := live_set hL (hL.get (P := pBlk w.heap.size #[.bool neg, .slice none 0 0, .int .i64 (wrap64 (k0 + ((a : Int) - b - pl)))] 25) (by repeat (first | exact List.mem_cons_self | apply List.mem_cons_of_mem))) (hL.get (P := pBlk (w.heap.size + 1) #[.int .i64 0] 30) (by repeat (first | exact List.mem_cons_self | apply List.mem_cons_of_mem))) 2 (.int .i64 0)
    replace hL := hL.put (pT_st _ _ _) (isT_nil _ 128)
    have hcs : ∀ x ∈ (#[.bool neg, .slice none 0 0, .int .i64 0] : Array Value).toList, ∀ n, x ≠ .int .u64 n := by simp
    have hce : ∀ x ∈ (#[.int .i64 0] : Array Value).toList, ∀ n, x ≠ .int .u64 n := by simp
    clear pd pe q0 q1 q2 f0 f2
    rcases fin_three l neg 0 0 with ⟨hr, hq⟩ | ⟨hr, hq⟩ | hr
    · have hres := Lib.hid (hfin.symm.trans (show finS l neg (candBC t) = some (neg, 0, 0) by rw [hcand]; exact fin_some hr hq))
      have hX2 : lyR neg 0 0 = l := by unfold lyR; rw [if_pos hr, hq]
      have hrt := right_t neg 0 (hW.below hL.below).tab (hL.get (P := pT (.slice none 0 0) 128 0) (by repeat (first | exact List.mem_cons_self | apply List.mem_cons_of_mem)))
      rw [decide_eq_true hr] at hrt
      replace hrt := Lib.hid hrt
      replace hr := Lib.hid hr
      replace hq := Lib.hid hq
      refine hrt.out.mono ?_
      rintro e1 w6 ⟨rfl, hb6⟩
      replace hL := hL.go hb6
      clear hb6 hrt
      have pd := hL.get (P := pBlk w.heap.size #[.bool neg, (.slice none 0 0), .int .i64 0] 25) (by repeat (first | exact List.mem_cons_self | apply List.mem_cons_of_mem))
      have q0 := pd.cell 0 _ rfl
      have q1 := pd.cell 1 _ rfl
      have q2 := pd.cell 2 _ rfl
      have hly := layout_any neg 0 (hW.below hL.below).tab (hL.get (P := pT (.slice none 0 0) 128 0) (by repeat (first | exact List.mem_cons_self | apply List.mem_cons_of_mem)))
      rw [hX2] at hly
      clear hX2
      replace hly := Lib.hid hly
      go_wp2_with fail
      refine hly.out.mono ?_
      rintro e1 w7 ⟨rfl, hb6⟩
      replace hL := hL.go hb6
      clear hb6 hly q0 q1 q2 pd
      go_wp2_with fail
      refine (lmust_yes _).mono ?_
      rintro e1 w8 ⟨rfl, rfl⟩
      have pd := hL.get (P := pBlk w.heap.size #[.bool neg, (.slice none 0 0), .int .i64 0] 25) (by repeat (first | exact List.mem_cons_self | apply List.mem_cons_of_mem))
      have pe := hL.get (P := pBlk (w.heap.size + 1) #[.int .i64 0] 30) (by repeat (first | exact List.mem_cons_self | apply List.mem_cons_of_mem))
      have hv := hL.get (P := pT (.slice none 0 0) 128 0) (by repeat (first | exact List.mem_cons_self | apply List.mem_cons_of_mem))
      have hbl := hL.below
      have q0 := pd.cell 0 _ rfl
      have q1 := pd.cell 1 _ rfl
      have q2 := pd.cell 2 _ rfl
      have q3 := pe.cell 0 _ rfl
      have f0 := pd.free 0
      have f1 := pd.free 1
      have f2 := pd.free 2
      have f3 := pe.free 0
      have pdf := (((pd.setI 0 (.bool neg)).setI 1 (.slice none 0 0)).setI 2 (.int .i64 0)).oth (g' := w.heap.size + 1) (by omega) 0 (.int .i64 0)
      have pef := (((pe.oth (g' := w.heap.size) (by omega) 0 (.bool neg)).oth (g' := w.heap.size) (by omega) 1 (.slice none 0 0)).oth (g' := w.heap.size) (by omega) 2 (.int .i64 0)).setI 0 (.int .i64 0)
      have hvf := (((IsT.apartB (i := 0) (u := .bool neg) hv pd hcs).apartB (i := 1) (u := (.slice none 0 0)) (pd.setI 0 (.bool neg)) hcs).apartB (i := 2) (u := .int .i64 0) ((pd.setI 0 (.bool neg)).setI 1 (.slice none 0 0)) hcs).apartB (i := 0) (u := .int .i64 0) (((pe.oth (g' := w.heap.size) (by omega) 0 (.bool neg)).oth (g' := w.heap.size) (by omega) 1 (.slice none 0 0)).oth (g' := w.heap.size) (by omega) 2 (.int .i64 0)) hce
      have hbf := (((hbl.setCell (p := ⟨w.heap.size, 0, none⟩) (Nat.le_refl _) (.bool neg)).setCell (p := ⟨w.heap.size, 1, none⟩) (Nat.le_refl _) (.slice none 0 0)).setCell (p := ⟨w.heap.size, 2, none⟩) (Nat.le_refl _) (.int .i64 0)).setCell (p := ⟨w.heap.size + 1, 0, none⟩) (Nat.le_succ _) (.int .i64 0)
      have y0 := pdf.cell 0 _ rfl
      have y1 := pdf.cell 1 _ rfl
      have y2 := pdf.cell 2 _ rfl
      have y3 := pef.cell 0 _ rfl
      clear hL hbl
      go_wp2
      show Leaves _ _ _ _ _ .returning _
      refine leaves_cons (f := 35) (args := #[.pointer (some ⟨w.heap.size, 0, none⟩), .pointer (some ⟨w.heap.size + 1, 0, none⟩)]) (by simp) (by simp [go_sem]) ?_
      refine (lcatch_idle w.heap.size _).mono ?_
      rintro e1 u1 w8 ⟨rfl, rfl, rfl⟩
      simp [Leaves, settle, results, Tryz.results15, go_sem, y0, y1, y2, y3]
      exact .inr ⟨neg, _, _, _, hres.out, rfl, hvf, hbf⟩
    · have hres := Lib.hid (hfin.symm.trans (show finS l neg (candBC t) = none by rw [hcand]; exact fin_none fun h => hq h.2))
      have hX : ((strL (lyR neg 0 0)).toList == (strL l).toList) = false := by
        unfold lyR
        rw [if_pos hr, strL_toL', strL_toL', beq_eq_false_iff_ne]
        exact hq
      obtain ⟨X, hXe⟩ : ∃ X, strL (lyR neg 0 0) = X := ⟨_, rfl⟩
      rw [hXe] at hX
      have hrt := right_t neg 0 (hW.below hL.below).tab (hL.get (P := pT (.slice none 0 0) 128 0) (by repeat (first | exact List.mem_cons_self | apply List.mem_cons_of_mem)))
      rw [decide_eq_true hr] at hrt
      replace hrt := Lib.hid hrt
      replace hr := Lib.hid hr
      replace hq := Lib.hid hq
      refine hrt.out.mono ?_
      rintro e1 w6 ⟨rfl, hb6⟩
      replace hL := hL.go hb6
      clear hb6 hrt
      have pd := hL.get (P := pBlk w.heap.size #[.bool neg, (.slice none 0 0), .int .i64 0] 25) (by repeat (first | exact List.mem_cons_self | apply List.mem_cons_of_mem))
      have q0 := pd.cell 0 _ rfl
      have q1 := pd.cell 1 _ rfl
      have q2 := pd.cell 2 _ rfl
      have hly := layout_any neg 0 (hW.below hL.below).tab (hL.get (P := pT (.slice none 0 0) 128 0) (by repeat (first | exact List.mem_cons_self | apply List.mem_cons_of_mem)))
      rw [hXe] at hly
      clear hXe
      replace hly := Lib.hid hly
      go_wp2_with fail
      refine hly.out.mono ?_
      rintro e1 w7 ⟨rfl, hb6⟩
      replace hL := hL.go hb6
      clear hb6 hly q0 q1 q2 pd
      go_wp2_with fail
      refine (lmust_no _).mono ?_
      rintro e1 w8 ⟨rfl, rfl⟩
      have pd := hL.get (P := pBlk w.heap.size #[.bool neg, (.slice none 0 0), .int .i64 0] 25) (by repeat (first | exact List.mem_cons_self | apply List.mem_cons_of_mem))
      have pe := hL.get (P := pBlk (w.heap.size + 1) #[.int .i64 0] 30) (by repeat (first | exact List.mem_cons_self | apply List.mem_cons_of_mem))
      have hbl := hL.below
      clear hL
      go_wp2
      refine leaves_cons (f := 35) (args := #[.pointer (some ⟨w.heap.size, 0, none⟩), .pointer (some ⟨w.heap.size + 1, 0, none⟩)]) (by simp) (by simp [go_sem]) ?_
      refine (lcatch_thrown w.heap.size [] _ pd pe).mono ?_
      rintro e1 u1 w8 ⟨rfl, rfl, pd8, pe8, hb8⟩
      have y0 := pd8.cell 0 _ rfl
      have y1 := pd8.cell 1 _ rfl
      have y2 := pd8.cell 2 _ rfl
      have y3 := pe8.cell 0 _ rfl
      have hbf := hbl.trans hb8
      simp [Leaves, settle, results, Tryz.results15, go_sem, y0, y1, y2, y3]
      exact .inl ⟨hres.out, rfl, hbf⟩
    · have hres := Lib.hid (hfin.symm.trans (show finS l neg (candBC t) = none by rw [hcand]; exact fin_none fun h => hr h.1))
      have hrt := right_t neg 0 (hW.below hL.below).tab (hL.get (P := pT (.slice none 0 0) 128 0) (by repeat (first | exact List.mem_cons_self | apply List.mem_cons_of_mem)))
      rw [decide_eq_false hr] at hrt
      replace hrt := Lib.hid hrt
      replace hr := Lib.hid hr
      refine hrt.out.mono ?_
      rintro e1 w6 ⟨rfl, hb6⟩
      replace hL := hL.go hb6
      clear hb6 hrt
      go_wp2_with fail
      refine (lmust_no _).mono ?_
      rintro e1 w8 ⟨rfl, rfl⟩
      have pd := hL.get (P := pBlk w.heap.size #[.bool neg, (.slice none 0 0), .int .i64 0] 25) (by repeat (first | exact List.mem_cons_self | apply List.mem_cons_of_mem))
      have pe := hL.get (P := pBlk (w.heap.size + 1) #[.int .i64 0] 30) (by repeat (first | exact List.mem_cons_self | apply List.mem_cons_of_mem))
      have hbl := hL.below
      clear hL
      go_wp2
      refine leaves_cons (f := 35) (args := #[.pointer (some ⟨w.heap.size, 0, none⟩), .pointer (some ⟨w.heap.size + 1, 0, none⟩)]) (by simp) (by simp [go_sem]) ?_
      refine (lcatch_thrown w.heap.size [] _ pd pe).mono ?_
      rintro e1 u1 w8 ⟨rfl, rfl, pd8, pe8, hb8⟩
      have y0 := pd8.cell 0 _ rfl
      have y1 := pd8.cell 1 _ rfl
      have y2 := pd8.cell 2 _ rfl
      have y3 := pe8.cell 0 _ rfl
      have hbf := hbl.trans hb8
      simp [Leaves, settle, results, Tryz.results15, go_sem, y0, y1, y2, y3]
      exact .inl ⟨hres.out, rfl, hbf⟩
  · have hE : (strL ds).toList.isEmpty = false := by unfold strL; rw [ByteArray.toList_mk]; simpa using hd0
    have hcand : candBC t = some (numV ds, (wrap64 (k0 + ((a : Int) - b - pl)))) := by rw [hrr, hA, Option.bind_some, if_neg hd0, if_pos hpk, hKK]; exact congrArg (fun x => some (numV ds, x)) (IntWalk.i64_left _)
    have hpo : POk (strL ds).data.toList := (pOk_iff ds).2 hpk
    have hpn : numV ds < 18446744073709551616 ^ 128 := by
      obtain ⟨_, h2, _, h4⟩ := hpo
      have h5 := numV_lt ds h4
      exact num_big h2 h5
    replace hd0 := Lib.hid hd0
    replace hpk := Lib.hid hpk
    replace hpn := Lib.hid hpn
    go_wp2_with fail
    refine (parse_t _ (strL ds) hpo).mono ?_
    rintro e1 w5 ⟨v, rfl, hv0, hb5⟩
    replace hL := live_set hL pd pe 2 (.int .i64 (wrap64 (k0 + ((a : Int) - b - pl))))
    replace hL := live_set hL (hL.get (P := pBlk w.heap.size #[.bool false, .slice none 0 0, .int .i64 (wrap64 (k0 + ((a : Int) - b - pl)))] 25) (by repeat (first | exact List.mem_cons_self | apply List.mem_cons_of_mem))) (hL.get (P := pBlk (w.heap.size + 1) #[.int .i64 0] 30) (by repeat (first | exact List.mem_cons_self | apply List.mem_cons_of_mem))) 0 (.bool neg)
    replace hL := hL.go hb5
    have hv : IsT w5 v 128 (numV ds) := isT_fit hv0 hpn.out
    obtain ⟨A9, c9, zs, rfl, hvr⟩ := id hv
    clear hvr hv0 hb5 pd pe q0 q1 q2 f0 f2 hpo
    obtain ⟨n9, hn9⟩ : ∃ n, zs.length = n := ⟨_, rfl⟩
    rw [hn9] at hv ⊢
    clear hn9
    have pd := hL.get (P := pBlk w.heap.size #[.bool neg, .slice none 0 0, .int .i64 (wrap64 (k0 + ((a : Int) - b - pl)))] 25) (by repeat (first | exact List.mem_cons_self | apply List.mem_cons_of_mem))
    have pe := hL.get (P := pBlk (w.heap.size + 1) #[.int .i64 0] 30) (by repeat (first | exact List.mem_cons_self | apply List.mem_cons_of_mem))
    have q0 := pd.cell 0 _ rfl
    have q1 := pd.cell 1 _ rfl
    have q2 := pd.cell 2 _ rfl
    have f1 := pd.free 1
    go_wp2_with fail
    refine (lmust_yes _).mono ?_
    rintro e1 w8 ⟨rfl, rfl⟩
    have hv' := IsT.apartB (i := 1) (u := .slice A9 n9 c9) hv pd (by simp)
    replace hL := (live_set hL pd pe 1 (.slice A9 n9 c9)).put (pT_st _ _ _) hv'
    have hcs : ∀ x ∈ (#[.bool neg, .slice A9 n9 c9, .int .i64 (wrap64 (k0 + ((a : Int) - b - pl)))] : Array Value).toList, ∀ n, x ≠ .int .u64 n := by simp
    have hce : ∀ x ∈ (#[.int .i64 0] : Array Value).toList, ∀ n, x ≠ .int .u64 n := by simp
    go_wp2_with fail
    clear pd pe q0 q1 q2 f1 hv hv'
    obtain ⟨N, hN⟩ : ∃ N, numV ds = N := ⟨_, rfl⟩
    rw [hN] at hcand hL
    clear hN
    rcases fin_three l neg N (wrap64 (k0 + ((a : Int) - b - pl))) with ⟨hr, hq⟩ | ⟨hr, hq⟩ | hr
    · have hres := Lib.hid (hfin.symm.trans (show finS l neg (candBC t) = some (neg, N, (wrap64 (k0 + ((a : Int) - b - pl)))) by rw [hcand]; exact fin_some hr hq))
      have hX2 : lyR neg N (wrap64 (k0 + ((a : Int) - b - pl))) = l := by unfold lyR; rw [if_pos hr, hq]
      have hrt := right_t neg (wrap64 (k0 + ((a : Int) - b - pl))) (hW.below hL.below).tab (hL.get (P := pT (.slice A9 n9 c9) 128 N) (by repeat (first | exact List.mem_cons_self | apply List.mem_cons_of_mem)))
      rw [decide_eq_true hr] at hrt
      replace hrt := Lib.hid hrt
      replace hr := Lib.hid hr
      replace hq := Lib.hid hq
      refine hrt.out.mono ?_
      rintro e1 w6 ⟨rfl, hb6⟩
      replace hL := hL.go hb6
      clear hb6 hrt
      have pd := hL.get (P := pBlk w.heap.size #[.bool neg, (.slice A9 n9 c9), .int .i64 (wrap64 (k0 + ((a : Int) - b - pl)))] 25) (by repeat (first | exact List.mem_cons_self | apply List.mem_cons_of_mem))
      have q0 := pd.cell 0 _ rfl
      have q1 := pd.cell 1 _ rfl
      have q2 := pd.cell 2 _ rfl
      have hly := layout_any neg (wrap64 (k0 + ((a : Int) - b - pl))) (hW.below hL.below).tab (hL.get (P := pT (.slice A9 n9 c9) 128 N) (by repeat (first | exact List.mem_cons_self | apply List.mem_cons_of_mem)))
      rw [hX2] at hly
      clear hX2
      replace hly := Lib.hid hly
      go_wp2_with fail
      refine hly.out.mono ?_
      rintro e1 w7 ⟨rfl, hb6⟩
      replace hL := hL.go hb6
      clear hb6 hly q0 q1 q2 pd
      go_wp2_with fail
      refine (lmust_yes _).mono ?_
      rintro e1 w8 ⟨rfl, rfl⟩
      have pd := hL.get (P := pBlk w.heap.size #[.bool neg, (.slice A9 n9 c9), .int .i64 (wrap64 (k0 + ((a : Int) - b - pl)))] 25) (by repeat (first | exact List.mem_cons_self | apply List.mem_cons_of_mem))
      have pe := hL.get (P := pBlk (w.heap.size + 1) #[.int .i64 0] 30) (by repeat (first | exact List.mem_cons_self | apply List.mem_cons_of_mem))
      have hv := hL.get (P := pT (.slice A9 n9 c9) 128 N) (by repeat (first | exact List.mem_cons_self | apply List.mem_cons_of_mem))
      have hbl := hL.below
      have q0 := pd.cell 0 _ rfl
      have q1 := pd.cell 1 _ rfl
      have q2 := pd.cell 2 _ rfl
      have q3 := pe.cell 0 _ rfl
      have f0 := pd.free 0
      have f1 := pd.free 1
      have f2 := pd.free 2
      have f3 := pe.free 0
      have pdf := (((pd.setI 0 (.bool neg)).setI 1 (.slice A9 n9 c9)).setI 2 (.int .i64 (wrap64 (k0 + ((a : Int) - b - pl))))).oth (g' := w.heap.size + 1) (by omega) 0 (.int .i64 0)
      have pef := (((pe.oth (g' := w.heap.size) (by omega) 0 (.bool neg)).oth (g' := w.heap.size) (by omega) 1 (.slice A9 n9 c9)).oth (g' := w.heap.size) (by omega) 2 (.int .i64 (wrap64 (k0 + ((a : Int) - b - pl))))).setI 0 (.int .i64 0)
      have hvf := (((IsT.apartB (i := 0) (u := .bool neg) hv pd hcs).apartB (i := 1) (u := (.slice A9 n9 c9)) (pd.setI 0 (.bool neg)) hcs).apartB (i := 2) (u := .int .i64 (wrap64 (k0 + ((a : Int) - b - pl)))) ((pd.setI 0 (.bool neg)).setI 1 (.slice A9 n9 c9)) hcs).apartB (i := 0) (u := .int .i64 0) (((pe.oth (g' := w.heap.size) (by omega) 0 (.bool neg)).oth (g' := w.heap.size) (by omega) 1 (.slice A9 n9 c9)).oth (g' := w.heap.size) (by omega) 2 (.int .i64 (wrap64 (k0 + ((a : Int) - b - pl))))) hce
      have hbf := (((hbl.setCell (p := ⟨w.heap.size, 0, none⟩) (Nat.le_refl _) (.bool neg)).setCell (p := ⟨w.heap.size, 1, none⟩) (Nat.le_refl _) (.slice A9 n9 c9)).setCell (p := ⟨w.heap.size, 2, none⟩) (Nat.le_refl _) (.int .i64 (wrap64 (k0 + ((a : Int) - b - pl))))).setCell (p := ⟨w.heap.size + 1, 0, none⟩) (Nat.le_succ _) (.int .i64 0)
      have y0 := pdf.cell 0 _ rfl
      have y1 := pdf.cell 1 _ rfl
      have y2 := pdf.cell 2 _ rfl
      have y3 := pef.cell 0 _ rfl
      clear hL hbl
      go_wp2
      show Leaves _ _ _ _ _ .returning _
      refine leaves_cons (f := 35) (args := #[.pointer (some ⟨w.heap.size, 0, none⟩), .pointer (some ⟨w.heap.size + 1, 0, none⟩)]) (by simp) (by simp [go_sem]) ?_
      refine (lcatch_idle w.heap.size _).mono ?_
      rintro e1 u1 w8 ⟨rfl, rfl, rfl⟩
      simp [Leaves, settle, results, Tryz.results15, go_sem, y0, y1, y2, y3]
      exact .inr ⟨neg, _, _, _, hres.out, rfl, hvf, hbf⟩
    · have hres := Lib.hid (hfin.symm.trans (show finS l neg (candBC t) = none by rw [hcand]; exact fin_none fun h => hq h.2))
      have hX : ((strL (lyR neg N (wrap64 (k0 + ((a : Int) - b - pl))))).toList == (strL l).toList) = false := by
        unfold lyR
        rw [if_pos hr, strL_toL', strL_toL', beq_eq_false_iff_ne]
        exact hq
      obtain ⟨X, hXe⟩ : ∃ X, strL (lyR neg N (wrap64 (k0 + ((a : Int) - b - pl)))) = X := ⟨_, rfl⟩
      rw [hXe] at hX
      have hrt := right_t neg (wrap64 (k0 + ((a : Int) - b - pl))) (hW.below hL.below).tab (hL.get (P := pT (.slice A9 n9 c9) 128 N) (by repeat (first | exact List.mem_cons_self | apply List.mem_cons_of_mem)))
      rw [decide_eq_true hr] at hrt
      replace hrt := Lib.hid hrt
      replace hr := Lib.hid hr
      replace hq := Lib.hid hq
      refine hrt.out.mono ?_
      rintro e1 w6 ⟨rfl, hb6⟩
      replace hL := hL.go hb6
      clear hb6 hrt
      have pd := hL.get (P := pBlk w.heap.size #[.bool neg, (.slice A9 n9 c9), .int .i64 (wrap64 (k0 + ((a : Int) - b - pl)))] 25) (by repeat (first | exact List.mem_cons_self | apply List.mem_cons_of_mem))
      have q0 := pd.cell 0 _ rfl
      have q1 := pd.cell 1 _ rfl
      have q2 := pd.cell 2 _ rfl
      have hly := layout_any neg (wrap64 (k0 + ((a : Int) - b - pl))) (hW.below hL.below).tab (hL.get (P := pT (.slice A9 n9 c9) 128 N) (by repeat (first | exact List.mem_cons_self | apply List.mem_cons_of_mem)))
      rw [hXe] at hly
      clear hXe
      replace hly := Lib.hid hly
      go_wp2_with fail
      refine hly.out.mono ?_
      rintro e1 w7 ⟨rfl, hb6⟩
      replace hL := hL.go hb6
      clear hb6 hly q0 q1 q2 pd
      go_wp2_with fail
      refine (lmust_no _).mono ?_
      rintro e1 w8 ⟨rfl, rfl⟩
      have pd := hL.get (P := pBlk w.heap.size #[.bool neg, (.slice A9 n9 c9), .int .i64 (wrap64 (k0 + ((a : Int) - b - pl)))] 25) (by repeat (first | exact List.mem_cons_self | apply List.mem_cons_of_mem))
      have pe := hL.get (P := pBlk (w.heap.size + 1) #[.int .i64 0] 30) (by repeat (first | exact List.mem_cons_self | apply List.mem_cons_of_mem))
      have hbl := hL.below
      clear hL
      go_wp2
      refine leaves_cons (f := 35) (args := #[.pointer (some ⟨w.heap.size, 0, none⟩), .pointer (some ⟨w.heap.size + 1, 0, none⟩)]) (by simp) (by simp [go_sem]) ?_
      refine (lcatch_thrown w.heap.size [] _ pd pe).mono ?_
      rintro e1 u1 w8 ⟨rfl, rfl, pd8, pe8, hb8⟩
      have y0 := pd8.cell 0 _ rfl
      have y1 := pd8.cell 1 _ rfl
      have y2 := pd8.cell 2 _ rfl
      have y3 := pe8.cell 0 _ rfl
      have hbf := hbl.trans hb8
      simp [Leaves, settle, results, Tryz.results15, go_sem, y0, y1, y2, y3]
      exact .inl ⟨hres.out, rfl, hbf⟩
    · have hres := Lib.hid (hfin.symm.trans (show finS l neg (candBC t) = none by rw [hcand]; exact fin_none fun h => hr h.1))
      have hrt := right_t neg (wrap64 (k0 + ((a : Int) - b - pl))) (hW.below hL.below).tab (hL.get (P := pT (.slice A9 n9 c9) 128 N) (by repeat (first | exact List.mem_cons_self | apply List.mem_cons_of_mem)))
      rw [decide_eq_false hr] at hrt
      replace hrt := Lib.hid hrt
      replace hr := Lib.hid hr
      refine hrt.out.mono ?_
      rintro e1 w6 ⟨rfl, hb6⟩
      replace hL := hL.go hb6
      clear hb6 hrt
      go_wp2_with fail
      refine (lmust_no _).mono ?_
      rintro e1 w8 ⟨rfl, rfl⟩
      have pd := hL.get (P := pBlk w.heap.size #[.bool neg, (.slice A9 n9 c9), .int .i64 (wrap64 (k0 + ((a : Int) - b - pl)))] 25) (by repeat (first | exact List.mem_cons_self | apply List.mem_cons_of_mem))
      have pe := hL.get (P := pBlk (w.heap.size + 1) #[.int .i64 0] 30) (by repeat (first | exact List.mem_cons_self | apply List.mem_cons_of_mem))
      have hbl := hL.below
      clear hL
      go_wp2
      refine leaves_cons (f := 35) (args := #[.pointer (some ⟨w.heap.size, 0, none⟩), .pointer (some ⟨w.heap.size + 1, 0, none⟩)]) (by simp) (by simp [go_sem]) ?_
      refine (lcatch_thrown w.heap.size [] _ pd pe).mono ?_
      rintro e1 u1 w8 ⟨rfl, rfl, pd8, pe8, hb8⟩
      have y0 := pd8.cell 0 _ rfl
      have y1 := pd8.cell 1 _ rfl
      have y2 := pd8.cell 2 _ rfl
      have y3 := pe8.cell 0 _ rfl
      have hbf := hbl.trans hb8
      simp [Leaves, settle, results, Tryz.results15, go_sem, y0, y1, y2, y3]
      exact .inl ⟨hres.out, rfl, hbf⟩
  · have hE : (strL ds).toList.isEmpty = false := by unfold strL; rw [ByteArray.toList_mk]; simpa using hd0
    have hcand : candBC t = none := by rw [hrr, hA, Option.bind_some, if_neg hd0, if_neg hpk]
    have hres := Lib.hid (hfin.symm.trans (show finS l neg (candBC t) = none by rw [hcand]; rfl))
    have hpo : ¬ POk (strL ds).data.toList := fun h => hpk ((pOk_iff ds).1 h)
    replace hd0 := Lib.hid hd0
    replace hpk := Lib.hid hpk
    go_wp2_with fail
    refine (parse_no (strL ds) _ (by rw [hsd]; unfold maxLen; omega) hpo).mono ?_
    rintro e1 w5 ⟨rfl, hb5⟩
    replace hL := live_set hL pd pe 2 (.int .i64 (wrap64 (k0 + ((a : Int) - b - pl))))
    replace hL := live_set hL (hL.get (P := pBlk w.heap.size #[.bool false, .slice none 0 0, .int .i64 (wrap64 (k0 + ((a : Int) - b - pl)))] 25) (by repeat (first | exact List.mem_cons_self | apply List.mem_cons_of_mem))) (hL.get (P := pBlk (w.heap.size + 1) #[.int .i64 0] 30) (by repeat (first | exact List.mem_cons_self | apply List.mem_cons_of_mem))) 0 (.bool neg)
    replace hL := hL.go hb5
    clear hb5 pd pe q0 q1 q2 f0 f2 hpo
    have pd := hL.get (P := pBlk w.heap.size #[.bool neg, .slice none 0 0, .int .i64 (wrap64 (k0 + ((a : Int) - b - pl)))] 25) (by repeat (first | exact List.mem_cons_self | apply List.mem_cons_of_mem))
    have pe := hL.get (P := pBlk (w.heap.size + 1) #[.int .i64 0] 30) (by repeat (first | exact List.mem_cons_self | apply List.mem_cons_of_mem))
    have q0 := pd.cell 0 _ rfl
    have q1 := pd.cell 1 _ rfl
    have q2 := pd.cell 2 _ rfl
    have f1 := pd.free 1
    go_wp2_with fail
    refine (lmust_no _).mono ?_
    rintro e1 w8 ⟨rfl, rfl⟩
    replace hL := live_set hL pd pe 1 (.slice none 0 0)
    clear pd pe q0 q1 q2 f1
    skip
    have pd := hL.get (P := pBlk w.heap.size #[.bool neg, (.slice none 0 0), .int .i64 (wrap64 (k0 + ((a : Int) - b - pl)))] 25) (by repeat (first | exact List.mem_cons_self | apply List.mem_cons_of_mem))
    have pe := hL.get (P := pBlk (w.heap.size + 1) #[.int .i64 0] 30) (by repeat (first | exact List.mem_cons_self | apply List.mem_cons_of_mem))
    have hbl := hL.below
    clear hL
    go_wp2
    refine leaves_cons (f := 35) (args := #[.pointer (some ⟨w.heap.size, 0, none⟩), .pointer (some ⟨w.heap.size + 1, 0, none⟩)]) (by simp) (by simp [go_sem]) ?_
    refine (lcatch_thrown w.heap.size [] _ pd pe).mono ?_
    rintro e1 u1 w8 ⟨rfl, rfl, pd8, pe8, hb8⟩
    have y0 := pd8.cell 0 _ rfl
    have y1 := pd8.cell 1 _ rfl
    have y2 := pd8.cell 2 _ rfl
    have y3 := pe8.cell 0 _ rfl
    have hbf := hbl.trans hb8
    simp [Leaves, settle, results, Tryz.results15, go_sem, y0, y1, y2, y3]
    exact .inl ⟨hres.out, rfl, hbf⟩
set_option maxRecDepth 100000 in
set_option maxHeartbeats 4000000 in
theorem unlay_bad (l : List UInt8) (hl : l.length ≤ 300000) (hfar : (cutC 101 (unT l).1).2.2 = true) (hpw : powC (cutC 101 (unT l).1).2.1 = none) (w : World) (hW : LyW w) : Calls Tryz.prog 15 #[.string (strL l)] w (UOut w (unS l)) := by
  replace hl : l.length ≤ 1000000 := by omega
  have hmf : ∀ (fn : Fn) (first cap : Array Value) (w : World), (Instr.makeFunc fn first cap).run Tryz.prog w = .ok (.func fn first cap) w := fun _ _ _ _ => rfl
  have hfin := unC_eq l hl
  obtain ⟨neg, hneg⟩ : ∃ x, (unT l).2 = x := ⟨_, rfl⟩
  obtain ⟨t, ht⟩ : ∃ x, (unT l).1 = x := ⟨_, rfl⟩
  have htl : t.length ≤ 1000000 := by rw [← ht]; exact Nat.le_trans (unT_le l) hl
  rw [ht] at hfar
  obtain ⟨c1, hc1⟩ : ∃ x, (cutC 101 t).1 = x := ⟨_, rfl⟩
  obtain ⟨x1, hx1⟩ : ∃ x, (cutC 101 t).2.1 = x := ⟨_, rfl⟩
  have hcl := cutC_le 101 t
  rw [hc1, hx1] at hcl
  obtain ⟨u, hu⟩ : ∃ x, (cutC 46 c1).1 = x := ⟨_, rfl⟩
  obtain ⟨p, hp⟩ : ∃ x, (cutC 46 c1).2.1 = x := ⟨_, rfl⟩
  obtain ⟨fp, hfp⟩ : ∃ x, (cutC 46 c1).2.2 = x := ⟨_, rfl⟩
  have hpl := cutC_le 46 c1
  rw [hu, hp] at hpl
  have hD : candD t = (u, p) := by unfold candD; rw [hc1, hu, hp]
  obtain ⟨al, hal⟩ : ∃ x, trL (u ++ p) = x := ⟨_, rfl⟩
  obtain ⟨ds, hds⟩ : ∃ x, trR al = x := ⟨_, rfl⟩
  have hall := trL_le (u ++ p)
  have hdsl := trR_le al
  rw [hal, List.length_append] at hall
  rw [hds] at hdsl
  have hup := strL_app u p
  have hsu := strL_size u
  have hsp := strL_size p
  have hsa := strL_size al
  have hsd := strL_size ds
  obtain ⟨ul, hul⟩ : ∃ x, u.length = x := ⟨_, rfl⟩
  obtain ⟨pl, hpl'⟩ : ∃ x, p.length = x := ⟨_, rfl⟩
  obtain ⟨a, ha⟩ : ∃ x, al.length = x := ⟨_, rfl⟩
  obtain ⟨b, hb⟩ : ∃ x, ds.length = x := ⟨_, rfl⟩
  have hrr : candBC t = (candAC t).bind fun k0 => if ds = [] then some (0, 0) else if pOkL ds = true then some (numV ds, candKC k0 al p) else none := by
    unfold candBC
    rw [hD]
    simp only [hal, hds]
  have hKK : ∀ k0, candKC k0 al p = IntKind.i64.wrap (k0 + (((a : Int) - (b : Int)) - (pl : Int))) := by
    intro k0
    unfold candKC
    rw [hds, ha, hb, hpl']
  rw [hul] at hsu
  rw [hpl'] at hsp
  rw [ha] at hsa
  rw [hb] at hsd
  rw [hul, hpl', ha] at hall
  rw [ha, hb] at hdsl
  have hcat : ul + pl ≤ 9223372036854775807 := by omega
  rw [ht, hneg] at hfin
  rw [ht, hx1] at hpw
  have hA : candAC t = none := by unfold candAC; rw [hfar, if_pos rfl, hx1, hpw]
  have hcand : candBC t = none := by rw [hrr, hA, Option.bind_none]
  have hres := Lib.hid (hfin.symm.trans (show finS l neg (candBC t) = none by rw [hcand]; rfl))
  have hL := unlay_start w
  go_enter_defers Tryz.func15, Tryz.ntmps15
  go_wp2_with fail
  refine (cutp_any l _).mono ?_
  rintro e1 w1 ⟨rfl, rfl⟩
  rw [ht, hneg]
  go_wp2_with fail
  refine (lcut_any 101 t htl _ (hW.below hL.below).mx).mono ?_
  rintro e1 w2 ⟨rfl, hb2⟩
  replace hL := hL.go hb2
  clear hb2
  rw [hfar, hc1, hx1]
  go_wp2_with fail
  refine (power_no x1 (by omega) hpw _ (hW.below hL.below)).mono ?_
  rintro e1 w9 ⟨rfl, hb2⟩
  replace hL := hL.go hb2
  clear hb2
  have pd := hL.get (P := pBlk w.heap.size #[.bool false, .slice none 0 0, .int .i64 0] 25) (by repeat (first | exact List.mem_cons_self | apply List.mem_cons_of_mem))
  have pe := hL.get (P := pBlk (w.heap.size + 1) #[.int .i64 0] 30) (by repeat (first | exact List.mem_cons_self | apply List.mem_cons_of_mem))
  have hbl := hL.below
  clear hL
  go_wp2
  refine leaves_cons (f := 35) (args := #[.pointer (some ⟨w.heap.size, 0, none⟩), .pointer (some ⟨w.heap.size + 1, 0, none⟩)]) (by simp) (by simp [go_sem]) ?_
  refine (lcatch_thrown w.heap.size [] _ pd pe).mono ?_
  rintro e1 u1 w8 ⟨rfl, rfl, pd8, pe8, hb8⟩
  have y0 := pd8.cell 0 _ rfl
  have y1 := pd8.cell 1 _ rfl
  have y2 := pd8.cell 2 _ rfl
  have y3 := pe8.cell 0 _ rfl
  have hbf := hbl.trans hb8
  simp [Leaves, settle, results, Tryz.results15, go_sem, y0, y1, y2, y3]
  exact .inl ⟨hres.out, rfl, hbf⟩
theorem unlay_any (l : List UInt8) (hl : l.length ≤ 300000) (w : World) (hW : LyW w) : Calls Tryz.prog 15 #[.string (strL l)] w (UOut w (unS l)) := by
  cases hfar : (cutC 101 (unT l).1).2.2 with
  | false => exact unlay_near l hl hfar w hW
  | true =>
    cases hpw : powC (cutC 101 (unT l).1).2.1 with
    | none => exact unlay_bad l hl hfar hpw w hW
    | some k0 => exact unlay_far l hl hfar k0 hpw w hW
/-- Unlay, by what it tells. -/
theorem unlay_is (l : List UInt8) (hl : l.length ≤ 300000) (neg : Bool) (N : Nat) (k : Int) (h : unS l = some (neg, N, k)) (w : World) (hW : LyW w) : Calls Tryz.prog 15 #[.string (strL l)] w fun e w' =>
    ∃ v, e = .returned (.tuple #[.agg #[.bool neg, v, .int .i64 k], .int .i64 0]) ∧ IsT w' v 128 N ∧ Below w.heap.size w w' := by
  refine (unlay_any l hl w hW).mono ?_
  rintro e w' (⟨h0, _⟩ | ⟨neg', N', k', v, h0, he, hv, hb⟩)
  · rw [h] at h0; cases h0
  · rw [h] at h0
    injection h0 with h0
    injection h0 with h1 h2
    injection h2 with h2 h3
    subst h1; subst h2; subst h3
    exact ⟨v, he, hv, hb⟩
theorem unlay_no (l : List UInt8) (hl : l.length ≤ 300000) (h : unS l = none) (w : World) (hW : LyW w) : Calls Tryz.prog 15 #[.string (strL l)] w fun e w' =>
    e = .returned (.tuple #[.agg #[.bool false, .slice none 0 0, .int .i64 0], .int .i64 2]) ∧ Below w.heap.size w w' := by
  refine (unlay_any l hl w hW).mono ?_
  rintro e w' (⟨_, h1⟩ | ⟨neg', N', k', v, h0, _⟩)
  · exact h1
  · rw [h] at h0; cases h0
end Go.Proofs.YtjhdkdfiadlmcaaGreatDoor
namespace Go.Proofs.YtjhdkdfiadlmcaaGreatDoor
open Go.RowKit Go.Cal
def bDig (n : Bool) (v : Value) (k : Int) : Array Value := #[.bool n, v, .int .i64 k]
theorem isT_more {w : World} {v : Value} {k k' N : Nat} (h : IsT w v k N) (hk : k ≤ k') : IsT w v k' N := by
  obtain ⟨A, c, zs, h1, h2, h3, h4, h5, h6⟩ := h
  exact ⟨A, c, zs, h1, h2, h3, h4, Nat.le_trans h5 hk, h6⟩
set_option maxRecDepth 100000 in
set_option maxHeartbeats 1000000 in
theorem lsame_t {w : World} {v1 v2 : Value} {a b N1 N2 : Nat} (n1 n2 : Bool) (k1 k2 : Int) (h1 : IsN w v1 a N1) (h2 : IsN w v2 b N2) (b1 : a ≤ 1048576) (b2 : b ≤ 1048576) :
    Calls Tryz.prog 16 #[.agg #[.bool n1, v1, .int .i64 k1], .agg #[.bool n2, v2, .int .i64 k2]] w fun e w' => e = .returned (.bool (decide (n1 = n2 ∧ k1 = k2 ∧ N1 = N2))) ∧ Below w.heap.size w w' := by
  have hb : Below w.heap.size w ((w.alloc (.cells #[.bool n1, v1, .int .i64 k1] 25)).alloc (.cells #[.bool n2, v2, .int .i64 k2] 25)) := ((Below.refl _ _).alloc (Nat.le_refl _) _).alloc (by simp) _
  have hc := cmp_t (h1.below hb) (h2.below hb) b1 b2
  obtain ⟨A1, c1, z1, rfl, -⟩ := h1
  obtain ⟨A2, c2, z2, rfl, -⟩ := h2
  by_cases hn : n1 = n2
  · subst hn
    by_cases hk : k1 = k2
    · subst hk
      by_cases hN : N1 = N2
      · subst hN
        rw [cmpV_eq rfl] at hc
        rw [decide_eq_true ⟨rfl, rfl, rfl⟩]
        replace hc := Lib.hid hc
        cases n1
        all_goals
          go_enter Tryz.func16, Tryz.ntmps16
          go_wp2_with fail
          refine hc.out.mono ?_
          rintro e w2 ⟨rfl, hb2⟩
          go_wp2
          go_ret
          exact ⟨rfl, chain hb hb2⟩
      · have hcv : (cmpV (N1 : Int) (N2 : Int) == 0) = false := by
          unfold cmpV
          by_cases h : (N1 : Int) < N2
          · rw [if_pos h]; rfl
          · rw [if_neg h, if_pos (by omega)]; rfl
        obtain ⟨z, hz⟩ : ∃ z, cmpV (N1 : Int) (N2 : Int) = z := ⟨_, rfl⟩
        rw [hz] at hc hcv
        rw [decide_eq_false (fun h => hN h.2.2)]
        replace hc := Lib.hid hc
        clear hz
        cases n1
        all_goals
          go_enter Tryz.func16, Tryz.ntmps16
          go_wp2_with fail
          refine hc.out.mono ?_
          rintro e w2 ⟨rfl, hb2⟩
          go_wp2
          go_ret
          exact ⟨rfl, chain hb hb2⟩
    · rw [decide_eq_false (fun h => hk h.2.1)]
      have hk' : (k1 == k2) = false := by simpa using hk
      cases n1
      all_goals
        go_enter Tryz.func16, Tryz.ntmps16
        go_wp2
        go_ret
        exact ⟨rfl, hb⟩
  · rw [decide_eq_false (fun h => hn h.1)]
    cases n1 <;> cases n2
    · exact absurd rfl hn
    · go_enter Tryz.func16, Tryz.ntmps16
      go_wp2
      go_ret
      exact ⟨rfl, hb⟩
    · go_enter Tryz.func16, Tryz.ntmps16
      go_wp2
      go_ret
      exact ⟨rfl, hb⟩
    · exact absurd rfl hn
set_option maxRecDepth 100000 in
set_option maxHeartbeats 1000000 in
theorem lof_any (neg : Bool) (d : Nat) (hd : d < 18446744073709551616) (k : Int) (t : List UInt8) (ht : lyR neg d k = t) (w : World) (hT : Tab10 w) :
    Calls Tryz.prog 21 #[.bool neg, .int .u64 d, .int .i64 k] w fun e w' => e = .returned (.string (strL t)) ∧ Below w.heap.size w w' := by
  subst ht
  go_enter Tryz.func21, Tryz.ntmps21
  go_wp2_with fail
  refine (of_t _ d hd).mono ?_
  rintro e w1 ⟨v, rfl, hv, hb⟩
  have hv' := isT_more hv (show 1 ≤ 128 by decide)
  obtain ⟨A, c, zs, rfl, -⟩ := id hv
  go_wp2_with fail
  refine (layout_any neg k (hT.below hb) hv').mono ?_
  rintro e w2 ⟨rfl, hb2⟩
  go_wp2
  go_ret
  exact ⟨rfl, chain hb hb2⟩
set_option maxRecDepth 100000 in
set_option maxHeartbeats 4000000 in
theorem lshown_any (w : World) (hW : LyW w) : Calls Tryz.prog 9 #[] w fun e w' => e = .returned (.bool true) ∧ Below w.heap.size w w' := by
  have hL := LiveP.start w
  have t0 := strL_toL' [49, 46, 50, 53]
  have t1 := strL_toL' [49, 48, 48, 48, 48, 48, 48, 48, 48, 48, 48, 48, 48, 48, 48, 48, 48, 48, 48, 48, 48]
  have t2 := strL_toL' [49, 101, 50, 49]
  have t3 := strL_toL' [45, 48, 46, 48, 48, 48, 48, 48, 49]
  have t4 := strL_toL' [49, 101, 45, 55]
  have t5 := strL_toL' [49, 46, 50, 101, 45, 55]
  have t6 := strL_toL' [45, 48]
  have t7 := strL_toL' []
  have t8 := strL_toL' [49, 46, 50, 51, 52, 53, 101, 51, 52]
  have t9 := strL_toL' [49]
  go_enter Tryz.func9, Tryz.ntmps9
  go_wp2_with fail
  refine (unlay_no [49, 46, 48] (by decide) (by decide +kernel) _ hW).mono ?_
  rintro e v1 ⟨rfl, hb⟩
  replace hL := (hL.go hb).go ((Below.refl _ _).alloc (Nat.le_refl _) (.cells #[.bool false, .slice none 0 0, .int .i64 0] 25))
  clear hb
  go_wp2_with fail
  refine (unlay_no [49, 101, 50, 49, 120] (by decide) (by decide +kernel) _ (hW.below hL.below)).mono ?_
  rintro e v2 ⟨rfl, hb⟩
  replace hL := (hL.go hb).go ((Below.refl _ _).alloc (Nat.le_refl _) (.cells #[.bool false, .slice none 0 0, .int .i64 0] 25))
  clear hb
  go_wp2_with fail
  refine (unlay_is [45, 49, 101, 45, 55] (by decide) true 1 (-7) (by decide +kernel) _ (hW.below hL.below)).mono ?_
  rintro e v3 ⟨v, rfl, hv, hb⟩
  replace hL := (hL.go hb).put (pT_st v 128 1) hv
  obtain ⟨A, c, zs, rfl, -⟩ := id hv
  obtain ⟨n, hn⟩ : ∃ n, zs.length = n := ⟨_, rfl⟩
  rw [hn] at hL ⊢
  replace hL := (hL.go ((Below.refl _ _).alloc (Nat.le_refl _) (.cells #[.bool true, .slice A n c, .int .i64 (-7)] 25))).put (pBlk_st _ _ _) (pBlk_made v3 _ 25)
  clear hb hv hn
  go_wp2_with fail
  refine (lof_any false 125 (by decide) (-2) [49, 46, 50, 53] (by decide +kernel) _ (hW.below hL.below).tab).mono ?_
  rintro e w0 ⟨rfl, hb⟩
  replace hL := hL.go hb
  clear hb
  go_wp2_with fail
  refine (lof_any false 1 (by decide) 20 [49, 48, 48, 48, 48, 48, 48, 48, 48, 48, 48, 48, 48, 48, 48, 48, 48, 48, 48, 48, 48] (by decide +kernel) _ (hW.below hL.below).tab).mono ?_
  rintro e w1 ⟨rfl, hb⟩
  replace hL := hL.go hb
  clear hb
  go_wp2_with fail
  refine (lof_any false 1 (by decide) 21 [49, 101, 50, 49] (by decide +kernel) _ (hW.below hL.below).tab).mono ?_
  rintro e w2 ⟨rfl, hb⟩
  replace hL := hL.go hb
  clear hb
  go_wp2_with fail
  refine (lof_any true 1 (by decide) (-6) [45, 48, 46, 48, 48, 48, 48, 48, 49] (by decide +kernel) _ (hW.below hL.below).tab).mono ?_
  rintro e w3 ⟨rfl, hb⟩
  replace hL := hL.go hb
  clear hb
  go_wp2_with fail
  refine (lof_any false 1 (by decide) (-7) [49, 101, 45, 55] (by decide +kernel) _ (hW.below hL.below).tab).mono ?_
  rintro e w4 ⟨rfl, hb⟩
  replace hL := hL.go hb
  clear hb
  go_wp2_with fail
  refine (lof_any false 12 (by decide) (-8) [49, 46, 50, 101, 45, 55] (by decide +kernel) _ (hW.below hL.below).tab).mono ?_
  rintro e w5 ⟨rfl, hb⟩
  replace hL := hL.go hb
  clear hb
  go_wp2_with fail
  refine (lof_any true 0 (by decide) 0 [45, 48] (by decide +kernel) _ (hW.below hL.below).tab).mono ?_
  rintro e w6 ⟨rfl, hb⟩
  replace hL := hL.go hb
  clear hb
  go_wp2_with fail
  refine (lof_any false 10 (by decide) 0 [] (by decide +kernel) _ (hW.below hL.below).tab).mono ?_
  rintro e w7 ⟨rfl, hb⟩
  replace hL := hL.go hb
  clear hb
  go_wp2_with fail
  refine (lof_any false 12345 (by decide) 30 [49, 46, 50, 51, 52, 53, 101, 51, 52] (by decide +kernel) _ (hW.below hL.below).tab).mono ?_
  rintro e w8 ⟨rfl, hb⟩
  replace hL := hL.go hb
  clear hb
  have q0 := (hL.get (P := pBlk v3.heap.size #[.bool true, .slice A n c, .int .i64 (-7)] 25) (by repeat (first | exact List.mem_cons_self | apply List.mem_cons_of_mem))).cell 0 _ rfl
  have q1 := (hL.get (P := pBlk v3.heap.size #[.bool true, .slice A n c, .int .i64 (-7)] 25) (by repeat (first | exact List.mem_cons_self | apply List.mem_cons_of_mem))).cell 1 _ rfl
  have q2 := (hL.get (P := pBlk v3.heap.size #[.bool true, .slice A n c, .int .i64 (-7)] 25) (by repeat (first | exact List.mem_cons_self | apply List.mem_cons_of_mem))).cell 2 _ rfl
  have htx := stext_t (hW.below hL.below).tab (IsT.isN (hL.get (P := pT (.slice A n c) 128 1) (by repeat (first | exact List.mem_cons_self | apply List.mem_cons_of_mem)))) (by decide)
  rw [show Lib.decDigits 1 = [49] from dec_is (by decide) (by decide) (by decide) (by decide)] at htx
  replace htx := Lib.hid htx
  go_wp2_with fail
  refine htx.out.mono ?_
  rintro e w9 ⟨rfl, hb⟩
  replace hL := hL.go hb
  clear hb
  go_wp2
  go_ret
  exact ⟨rfl, hL.below⟩
end Go.Proofs.YtjhdkdfiadlmcaaGreatDoor
namespace Go.Proofs.YtjhdkdfiadlmcaaGreatDoor
open Go.ChangeShapes Go.WideShapes Go.ChangeAt Go.RowKit Go.Cal
/-- As the kit's wrap of that name without '_sh', the world's shape handed on. -/
theorem returnsInHanded_of_change_and_sh {H : Type} {enc : TypeId × Value → H} {a : Assume} {C : Checked} {os : Os} {f : FuncId} {fn : Func} {s : ChangeSpec} {conds : List PathCond} {apart fresh handsOn again : Bool} {X : World → Array Value → Prop}
    (hX : ∀ (w w' : World) (args : Array Value), w.heap = w'.heap → X w args → X w' args)
    (own : ownKnob C.prog.godebug = none) (started : os.Started) (noInit : C.prog.inits.idxOf? f = none) (hfn : C.prog.funcs[f]? = some fn)
    (witness : ∃ (w : World) (tape : Tape) (i : Input), w.os = os ∧ (w.forCall tape i).Shaped C.prog ∧ i.vars = [] ∧ Input.okWide C.prog (w.forCall tape i) .any w.heap.size f i ∧
      ((s.pre enc C.prog fn conds apart (w.forCall tape i).memory i.args ∧ X (w.forCall tape i).memory i.args) ∧ sizedMet enc C.prog fn (OpenSpec.ofChange s) apart (w.forCall tape i).memory i.args) ∧ a.holds C.prog (lone (Frame.enter C.prog f i.args .normal) [] (w.forCall tape i)))
    (contract : ∀ (W : World) (base : Nat) (args : Array Value) (ds gs : List (DataW H)) (before : List MemPlace),
      (∀ (j : Nat) t v, fn.params[j]? = some t → args[j]? = some v → Value.okWide C.prog W .any base t v) →
      DataW.Whole enc C.prog fn.params.toList s.vars apart W args.toList ds gs before →
      X W args → W.ShapedOpen C.prog →
      Calls C.prog f args W fun e W' => ∃ v, e = .returned v ∧ s.post enc C.prog fn apart fresh handsOn again W args v W') :
    ReturnsInHanded a C os f .any (fun w args => (s.pre enc C.prog fn conds apart w args ∧ X w args) ∧ sizedMet enc C.prog fn (OpenSpec.ofChange s) apart w args) (s.post enc C.prog fn apart fresh handsOn again) := by
  refine returnsInHanded_of_calls own started noInit witness ?_
  intro w tape i _ hsh _ hok hpre hholds
  obtain ⟨_, _, _, fn', hfn', _, _, _, _, hval⟩ := hok
  have e : fn' = fn := Option.some.inj (hfn'.symm.trans hfn)
  subst e
  obtain ⟨⟨⟨ds, gs, before, hw, hc⟩, hx⟩, hz⟩ := hpre
  refine (contract (w.forCall tape i) w.heap.size i.args ds gs before hval (DataW.Whole.of_heap (w' := w.forCall tape i) (by rfl) hw) (hX _ _ _ (by rfl) hx) hsh).mono fun e W' ⟨v, he, hp⟩ => ?_
  subst he
  exact ChangeSpec.post_blind hp
/-- A variable that is laid as an interface's value holds one. -/
theorem iface_of_laid {W : World} {laid : List (String × DataW Unit)} {n nm : String} {d : DataW Unit} {g : Nat} {t : TypeId} {ms : Array (String × TypeId)} (h : laidMet Tryz.prog laid W) (hm : (n, DataW.iface nm d) ∈ laid)
    (hg : Tryz.prog.globalNamed n = some g) (ht : (Tryz.prog.globals[g]?).map (·.type) = some t) (hi : Tryz.prog.underlying t = some (.interface ms)) : ∃ tp p, W.var? Tryz.prog n = some #[.iface tp p] := by
  obtain ⟨ps, hl, _⟩ := h
  obtain ⟨g', t', cs, fuel, p, h1, h2, h3, h4⟩ := laidVars_mem hl hm
  obtain rfl := Option.some.inj (hg.symm.trans h1)
  obtain rfl := Option.some.inj (ht.symm.trans h2)
  cases fuel with
  | zero => simp [DataW.trod] at h4
  | succ k =>
    unfold DataW.trod at h4
    rw [hi] at h4
    match hcs : cs.toList with
    | [] => rw [hcs] at h4; simp at h4
    | [x] =>
      rw [hcs] at h4
      cases x with
      | iface tp p =>
        refine ⟨tp, p, ?_⟩
        rw [h3, ← Array.toArray_toList (xs := cs), hcs]
      | _ => simp at h4
    | x :: y :: r => rw [hcs] at h4; simp at h4
theorem lyW_of_laid {W : World} {laid : List (String × DataW Unit)} (h : laidMet Tryz.prog laid W) (hsh : W.ShapedOpen Tryz.prog) (hm : ("internal/strconv.uint64pow10", Rows.laid_internal_strconv_uint64pow10) ∈ laid)
    (hs : ("strconv.ErrSyntax", Rows.laid_strconv_ErrSyntax) ∈ laid) (hr : ("strconv.ErrRange", Rows.laid_strconv_ErrRange) ∈ laid) : LyW W where
  tab := tab10_of_laid h hm
  mx := Go.Proofs.cell_of_shapedOpen_int (zero := #[.int .i64 0]) (t := 3) hsh (of_decide_eq_true (by kernel_rfl)) (by kernel_rfl) rfl (by kernel_rfl) (by kernel_rfl) Tryz.underlying3
  es := iface_of_laid h hs (g := 4) (by kernel_rfl) (by kernel_rfl) Tryz.underlying89
  er := iface_of_laid h hr (g := 5) (by kernel_rfl) (by kernel_rfl) Tryz.underlying89
end Go.Proofs.YtjhdkdfiadlmcaaGreatDoor
namespace Go.Proofs.YtjhdkdfiadlmcaaGreatDoor
open Go.ChangeShapes Go.WideShapes Go.ChangeAt Go.RowKit Go.Cal
set_option maxRecDepth 100000 in
theorem argN_cells {H : Type} {enc : TypeId × Value → H} {W : World} {cs : List Value} {d : DataW H} {p : List MemPlace} {sp : Nat → Bool} {hd : Bool} {fuel : Nat}
    (h : DataW.trod enc Tryz.prog W 0 sp hd fuel 23 cs = some (d, p)) (hlt : ∀ x ∈ p, x.block < W.heap.size) : ∃ v, cs = [v] ∧ ArgN W v := by
  rcases open_ints Tryz.underlying23 Tryz.underlying36 (by kernel_rfl) h with ⟨h1, _⟩ | ⟨a, len', cap', zs, h1, h2, h3, h4, h5, h6, h7, h8⟩
  · exact ⟨_, h1, none, 0, [], rfl, .nil, fun _ => rfl, Nat.le_refl _, by unfold maxLen; omega, fun x hx => by simp at hx⟩
  · have hlz : len' ≤ zs.length := by
      rw [h5]; split <;> omega
    have hb : ∀ n ∈ zs, 0 ≤ n ∧ n ≤ 18446744073709551615 := fun n hn => bounds_u64 (h8 n hn)
    have hl : ((zs.take len').map Int.toNat).length = len' := by rw [List.length_map, List.length_take]; omega
    refine ⟨_, h1, some a, cap', (zs.take len').map Int.toNat, by rw [hl], ?_, (fun e => by cases e), by rw [hl]; exact h3, h4, fun x hx => ?_⟩
    · by_cases h0 : len' = 0
      · subst h0; exact .nil
      · have h7' := h7
        obtain ⟨b, off, rfl, hc⟩ := ints_at h7 (by omega)
        have hin : MemPlace.cell b off ∈ p := by
          rw [(Prod.mk.inj h6).2]
          exact List.mem_map.2 ⟨0, List.mem_range.2 (by omega), rfl⟩
        refine ⟨.inr ⟨b, off, rfl, hlt _ hin⟩, fun b' off' e i hi => ?_⟩
        injection e with e
        injection e with e1 e2
        subst e1; subst e2
        rw [hl] at hi
        rw [hc i (by omega)]
        have hi2 : i < zs.length := by omega
        have hz := hb (zs.getD i 0) (by rw [List.getD_eq_getElem?_getD, List.getElem?_eq_getElem hi2]; exact List.getElem_mem _)
        have e3 : ((zs.take len').map Int.toNat).getD i 0 = (zs.getD i 0).toNat := by
          simp [List.getD_eq_getElem?_getD, hi, hi2]
        rw [e3]
        congr 2
        omega
    · obtain ⟨y, hy, rfl⟩ := List.mem_map.1 hx
      have := hb y (List.mem_of_mem_take hy)
      omega
set_option maxRecDepth 100000 in
theorem argD_of {H : Type} {enc : TypeId × Value → H} {W : World} {v : Value} {d : DataW H} {p : List MemPlace} {sp : Nat → Bool} {hd : Bool} {base : Nat}
    (hv : Value.okWide Tryz.prog W .any base 25 v) (h : DataW.Trod enc Tryz.prog W 0 sp hd 25 v d p) (hlt : ∀ x ∈ p, x.block < W.heap.size) :
    ∃ neg u k, v = .agg #[.bool neg, u, .int .i64 k] ∧ ArgN W u ∧ -9223372036854775808 ≤ k ∧ k ≤ 9223372036854775807 := by
  obtain ⟨fs, hu, hfs⟩ : ∃ fs, Tryz.prog.underlying 25 = some (.struct fs) ∧ fs.toList.map (fun f => (f.type, f.offset)) = [(4, 0), (23, 1), (3, 2)] := ⟨_, Tryz.underlying25, by kernel_rfl⟩
  have c0 : Tryz.prog.cellsOf 4 = 1 := by kernel_rfl
  have c1 : Tryz.prog.cellsOf 23 = 1 := by kernel_rfl
  have c2 : Tryz.prog.cellsOf 3 = 1 := by kernel_rfl
  have c3 : Tryz.prog.cellsOf 25 = 3 := by kernel_rfl
  unfold Value.okWide at hv
  rw [hu] at hv
  obtain ⟨cs, rfl, _, _⟩ := hv
  obtain ⟨fuel, h⟩ := h
  have e0 : (Value.agg cs).cells = cs := rfl
  rw [e0] at h
  cases fuel with
  | zero => simp [DataW.trod] at h
  | succ n =>
    unfold DataW.trod at h
    rw [hu] at h
    simp only at h
    split at h
    · rename_i hl
      rw [c3] at hl
      obtain ⟨xs, hm, hx⟩ := Option.map_eq_some_iff.1 h
      obtain ⟨f0, r0, h0, hf0, hr0⟩ := List.map_eq_cons_iff.1 hfs
      obtain ⟨f1, r1, h1, hf1, hr1⟩ := List.map_eq_cons_iff.1 hr0
      obtain ⟨f2, r2, h2, hf2, hr2⟩ := List.map_eq_cons_iff.1 hr1
      have h3 := List.map_eq_nil_iff.1 hr2
      injection hf0 with t0 o0
      injection hf1 with t1 o1
      injection hf2 with t2 o2
      rw [h0, h1, h2, h3] at hm
      simp only [List.mapM_cons, List.mapM_nil, Option.bind_eq_bind, Option.bind_eq_some_iff, Option.pure_def, Option.some.injEq, t0, t1, t2, o0, o1, o2, c0, c1, c2] at hm
      obtain ⟨x0, m0, y0, ⟨x1, m1, y1, ⟨x2, m2, _, rfl, rfl⟩, rfl⟩, rfl⟩ := hm
      obtain ⟨neg, e1, _⟩ := DataW.trod_bool Tryz.underlying4 m0
      obtain ⟨k, e3, _, wk⟩ := DataW.trod_int Tryz.underlying3 m2
      obtain ⟨d1, p1⟩ := x1
      obtain ⟨u, e2, ha⟩ := argN_cells m1 fun x hx' => hlt x (by
        have := (Prod.mk.inj hx).2
        rw [← this]
        simp [hx'])
      match hcs : cs.toList, hl with
      | [a, b, c], _ =>
        rw [hcs] at e1 e2 e3
        simp at e1 e2 e3
        subst e1; subst e2; subst e3
        refine ⟨neg, b, k, ?_, ha, (bounds_i64 wk).1, (bounds_i64 wk).2⟩
        rw [← Array.toArray_toList (xs := cs), hcs]
    · cases h
end Go.Proofs.YtjhdkdfiadlmcaaGreatDoor
namespace Go.Proofs.YtjhdkdfiadlmcaaGreatDoor
open Go.RowKit Go.Cal
/-- Digits that are not right, whatever they are: both calls say so. -/
def NoD (w : World) (D : Value) : Prop := ∀ W, Below w.heap.size w W → (Calls Tryz.prog 10 #[D] W fun e w' => e = .returned (.bool false) ∧ Below W.heap.size W w') ∧ (Calls Tryz.prog 12 #[D] W fun e w' => e = .returned (.string (strL [])) ∧ Below W.heap.size W w')
theorem NoD.below {w W : World} {D : Value} (h : NoD w D) (hb : Below w.heap.size w W) : NoD W D := fun W' hb' => h W' (chain hb hb')
set_option maxRecDepth 100000 in
set_option maxHeartbeats 1000000 in
theorem right_long {w : World} {A : Option Addr} {n c : Nat} (neg : Bool) (k : Int) (hn : 128 < n) :
    Calls Tryz.prog 10 #[.agg #[.bool neg, .slice A n c, .int .i64 k]] w fun e w' => e = .returned (.bool false) ∧ Below w.heap.size w w' := by
  have hb0 := (Below.refl w.heap.size w).alloc (Nat.le_refl _) (.cells #[.bool neg, .slice A n c, .int .i64 k] 25)
  have hn1 : (128 : Int) < n := by omega
  have hn2 : ((n : Int) == 0) = false := by simp; omega
  go_enter Tryz.func10, Tryz.ntmps10
  go_wp2
  go_ret
  exact ⟨rfl, hb0⟩
set_option maxRecDepth 100000 in
set_option maxHeartbeats 1000000 in
theorem right_low {w : World} {b off n c : Nat} (neg : Bool) (k : Int) (hn : 0 < n ∧ n ≤ 128) (hbB : b < w.heap.size) (hx : w.cell? ⟨b, off + (n - 1), none⟩ = some (.int .u64 0)) :
    Calls Tryz.prog 10 #[.agg #[.bool neg, .slice (some ⟨b, off, none⟩) n c, .int .i64 k]] w fun e w' => e = .returned (.bool false) ∧ Below w.heap.size w w' := by
  have hb0 := (Below.refl w.heap.size w).alloc (Nat.le_refl _) (.cells #[.bool neg, .slice (some ⟨b, off, none⟩) n c, .int .i64 k] 25)
  have hx' : (w.alloc (.cells #[.bool neg, .slice (some ⟨b, off, none⟩) n c, .int .i64 k] 25)).cell? ⟨b, off + (n - 1), none⟩ = some (.int .u64 0) := by
    rw [World.cell?_alloc_lt _ _ _ hbB]; exact hx
  obtain ⟨hn0, hn3⟩ := hn
  have hn2 : ((n : Int) == 0) = false := by simp; omega
  go_enter Tryz.func10, Tryz.ntmps10
  go_wp2
  go_ret
  exact ⟨rfl, hb0⟩
set_option maxRecDepth 100000 in
set_option maxHeartbeats 1000000 in
theorem layout_un {w : World} {A : Option Addr} {n c : Nat} (neg : Bool) (k : Int) (hr : ∀ W, Below w.heap.size w W → Calls Tryz.prog 10 #[.agg #[.bool neg, .slice A n c, .int .i64 k]] W fun e w' => e = .returned (.bool false) ∧ Below W.heap.size W w') :
    Calls Tryz.prog 12 #[.agg #[.bool neg, .slice A n c, .int .i64 k]] w fun e w' => e = .returned (.string (strL [])) ∧ Below w.heap.size w w' := by
  have hb0 := (Below.refl w.heap.size w).alloc (Nat.le_refl _) (.cells #[.bool neg, .slice A n c, .int .i64 k] 25)
  replace hr := Lib.hid (hr _ hb0)
  go_enter Tryz.func12, Tryz.ntmps12
  go_wp2_with fail
  refine hr.out.mono ?_
  rintro e w1 ⟨rfl, hb1⟩
  go_wp2
  go_ret
  exact ⟨rfl, chain hb0 hb1⟩
theorem noD_of {w : World} {A : Option Addr} {n c : Nat} (neg : Bool) (k : Int) (hr : ∀ W, Below w.heap.size w W → Calls Tryz.prog 10 #[.agg #[.bool neg, .slice A n c, .int .i64 k]] W fun e w' => e = .returned (.bool false) ∧ Below W.heap.size W w') : NoD w (.agg #[.bool neg, .slice A n c, .int .i64 k]) := fun W hb =>
  ⟨hr W hb, layout_un neg k fun W' hb' => hr W' (chain hb hb')⟩
/-- Digits that came in: right ones of a number, or not right. -/
theorem dig_cases {w : World} {v : Value} (neg : Bool) (k : Int) (hT : Tab10 w) (ha : ArgN w v) : ∃ A n c, v = .slice A n c ∧ ((∃ N, IsT w (.slice A n c) 128 N ∧ DRight N k) ∨ NoD w (.agg #[.bool neg, .slice A n c, .int .i64 k])) := by
  obtain ⟨A, c, xs, rfl, rd, _, hc, hcm, hd⟩ := ha
  refine ⟨A, xs.length, c, rfl, ?_⟩
  by_cases hl : 128 < xs.length
  · exact .inr (noD_of neg k fun W _ => right_long neg k hl)
  · by_cases hz : ∃ h : xs ≠ [], xs.getLast h = 0
    · obtain ⟨h0, hz⟩ := hz
      have hpos := List.length_pos_iff.2 h0
      obtain ⟨b, off, rfl, hbB, hcell⟩ := rd.at (i := 0) hpos
      have hx := hcell (xs.length - 1) (by omega)
      have hxv : xs.getD (xs.length - 1) 0 = xs.getLast h0 := by
        rw [List.getLast_eq_getElem, List.getD_eq_getElem?_getD, List.getElem?_eq_getElem (by omega)]
        rfl
      rw [hxv, hz] at hx
      refine .inr (noD_of neg k fun W hb => right_low neg k ⟨hpos, by omega⟩ (Nat.lt_of_lt_of_le hbB hb.size) ((hb.cell (p := ⟨b, _, none⟩) hbB).trans hx))
    · have ht : Top xs := fun h e => hz ⟨h, e⟩
      have hN : IsT w (.slice A xs.length c) 128 (vl 18446744073709551616 xs) := ⟨A, c, xs, rfl, rd, hc, hcm, by omega, ⟨hd, ht, rfl⟩⟩
      by_cases hr : DRight (vl 18446744073709551616 xs) k
      · exact .inl ⟨_, hN, hr⟩
      · refine .inr (noD_of neg k fun W hb => ?_)
        have := right_t neg k (hT.below hb) (hN.below hb)
        rw [decide_eq_false hr] at this
        exact this
theorem strL_of (s : ByteArray) : s = strL s.data.toList := by
  unfold strL
  refine ByteArray.ext ?_
  simp
set_option maxRecDepth 100000 in
set_option maxHeartbeats 1000000 in
theorem layoutBack_any (v : Value) (neg : Bool) (k : Int) (s : ByteArray) (w : World) (hW : LyW w) (ha : ArgN w v) (_ : -9223372036854775808 ≤ k ∧ k ≤ 9223372036854775807) (hs : s.size ≤ maxLen) :
    Calls Tryz.prog 5 #[.agg #[.bool neg, v, .int .i64 k], .string s] w fun e w' => e = .returned (.bool true) ∧ Below w.heap.size w w' := by
  obtain ⟨A, n, c, rfl, hcase⟩ := dig_cases neg k hW.tab ha
  obtain ⟨l, hl⟩ : ∃ l, s.data.toList = l := ⟨_, rfl⟩
  obtain rfl : s = strL l := by rw [← hl]; exact strL_of s
  clear hl ha
  obtain ⟨z, hz⟩ : ∃ z, l.length = z := ⟨_, rfl⟩
  have hsz : (strL l).size = z := by rw [strL_size, hz]
  rw [hsz] at hs
  obtain ⟨m, hm⟩ : ∃ m : Nat, min (z : Int) 300 = m := ⟨min z 300, by omega⟩
  have hsl := fun w => slice_to l m (by omega) w
  have hml : (l.take m).length ≤ 300000 := by rw [List.length_take]; omega
  have hb0 := (Below.refl w.heap.size w).alloc (Nat.le_refl _) (.cells #[.bool neg, .slice A n c, .int .i64 k] 25)
  have hL := ((LiveP.start w).go hb0).put (pBlk_st _ _ _) (pBlk_made w #[.bool neg, .slice A n c, .int .i64 k] 25)
  replace hz := Lib.hid hz
  rcases hcase with ⟨N, hN, hr⟩ | hno
  · have hL := hL.put (pT_st _ 128 N) (hN.below hb0)
    have hT0 := lyT_ne neg hr
    have hTl := lyT_len neg hr
    have huT := unS_lyT neg hr
    have hR : lyR neg N k = lyT neg N k := by unfold lyR; rw [if_pos hr]
    obtain ⟨T, hTT⟩ : ∃ T, lyT neg N k = T := ⟨_, rfl⟩
    rw [hTT] at hT0 hTl huT hR
    obtain ⟨y, hy⟩ : ∃ y, (strL T).size = y := ⟨_, rfl⟩
    have hy0 : ((y : Int) == 0) = false := by
      have : 0 < T.length := List.length_pos_iff.2 hT0
      rw [strL_size] at hy
      simp
      omega
    clear hb0 hN hT0 hTT
    go_enter Tryz.func5, Tryz.ntmps5
    go_wp2_with fail
    refine (lshown_any _ (hW.below hL.below)).mono ?_
    rintro e v1 ⟨rfl, hb⟩
    replace hL := hL.go hb
    clear hb
    have q0 := (hL.get (P := pBlk w.heap.size #[.bool neg, .slice A n c, .int .i64 k] 25) (by repeat (first | exact List.mem_cons_self | apply List.mem_cons_of_mem))).cell 0 _ rfl
    have q1 := (hL.get (P := pBlk w.heap.size #[.bool neg, .slice A n c, .int .i64 k] 25) (by repeat (first | exact List.mem_cons_self | apply List.mem_cons_of_mem))).cell 1 _ rfl
    have q2 := (hL.get (P := pBlk w.heap.size #[.bool neg, .slice A n c, .int .i64 k] 25) (by repeat (first | exact List.mem_cons_self | apply List.mem_cons_of_mem))).cell 2 _ rfl
    have hly := layout_any neg k (hW.below hL.below).tab (hL.get (P := pT (.slice A n c) 128 N) (by repeat (first | exact List.mem_cons_self | apply List.mem_cons_of_mem)))
    rw [hR] at hly
    replace hly := Lib.hid hly
    replace hR := Lib.hid hR
    replace hr := Lib.hid hr
    replace huT := Lib.hid huT
    go_wp2_with fail
    refine hly.out.mono ?_
    rintro e v2 ⟨rfl, hb⟩
    replace hL := hL.go hb
    clear hb hly q0 q1 q2
    go_wp2_with fail
    refine (unlay_is T (by omega) neg N k huT.out _ (hW.below hL.below)).mono ?_
    rintro e v3 ⟨u, rfl, hu, hb⟩
    replace hL := (hL.go hb).put (pT_st _ _ _) hu
    obtain ⟨A1, c1, zs1, rfl, -⟩ := id hu
    obtain ⟨n1, hn1⟩ : ∃ n, zs1.length = n := ⟨_, rfl⟩
    rw [hn1] at hL ⊢
    replace hL := (hL.go ((Below.refl _ _).alloc (Nat.le_refl _) (.cells #[.bool neg, .slice A1 n1 c1, .int .i64 k] 25))).put (pBlk_st _ _ _) (pBlk_made v3 _ 25)
    clear hb hu hn1
    have q0 := (hL.get (P := pBlk w.heap.size #[.bool neg, .slice A n c, .int .i64 k] 25) (by repeat (first | exact List.mem_cons_self | apply List.mem_cons_of_mem))).cell 0 _ rfl
    have q1 := (hL.get (P := pBlk w.heap.size #[.bool neg, .slice A n c, .int .i64 k] 25) (by repeat (first | exact List.mem_cons_self | apply List.mem_cons_of_mem))).cell 1 _ rfl
    have q2 := (hL.get (P := pBlk w.heap.size #[.bool neg, .slice A n c, .int .i64 k] 25) (by repeat (first | exact List.mem_cons_self | apply List.mem_cons_of_mem))).cell 2 _ rfl
    have hrt := fun (W : World) (hT : Tab10 W) (h : pT (.slice A n c) 128 N W) => right_t neg k hT h
    rw [decide_eq_true hr.out] at hrt
    replace hrt := Lib.hid hrt
    go_wp2_with fail
    refine (hrt.out _ (hW.below hL.below).tab (hL.get (P := pT (.slice A n c) 128 N) (by repeat (first | exact List.mem_cons_self | apply List.mem_cons_of_mem)))).mono ?_
    rintro e v4 ⟨rfl, hb⟩
    replace hL := hL.go hb
    clear hb q0 q1 q2
    have q0 := (hL.get (P := pBlk w.heap.size #[.bool neg, .slice A n c, .int .i64 k] 25) (by repeat (first | exact List.mem_cons_self | apply List.mem_cons_of_mem))).cell 0 _ rfl
    have q1 := (hL.get (P := pBlk w.heap.size #[.bool neg, .slice A n c, .int .i64 k] 25) (by repeat (first | exact List.mem_cons_self | apply List.mem_cons_of_mem))).cell 1 _ rfl
    have q2 := (hL.get (P := pBlk w.heap.size #[.bool neg, .slice A n c, .int .i64 k] 25) (by repeat (first | exact List.mem_cons_self | apply List.mem_cons_of_mem))).cell 2 _ rfl
    have r0 := (hL.get (P := pBlk v3.heap.size #[.bool neg, .slice A1 n1 c1, .int .i64 k] 25) (by repeat (first | exact List.mem_cons_self | apply List.mem_cons_of_mem))).cell 0 _ rfl
    have r1 := (hL.get (P := pBlk v3.heap.size #[.bool neg, .slice A1 n1 c1, .int .i64 k] 25) (by repeat (first | exact List.mem_cons_self | apply List.mem_cons_of_mem))).cell 1 _ rfl
    have r2 := (hL.get (P := pBlk v3.heap.size #[.bool neg, .slice A1 n1 c1, .int .i64 k] 25) (by repeat (first | exact List.mem_cons_self | apply List.mem_cons_of_mem))).cell 2 _ rfl
    have hsm := lsame_t neg neg k k (IsT.isN (hL.get (P := pT (.slice A1 n1 c1) 128 N) (by repeat (first | exact List.mem_cons_self | apply List.mem_cons_of_mem)))) (IsT.isN (hL.get (P := pT (.slice A n c) 128 N) (by repeat (first | exact List.mem_cons_self | apply List.mem_cons_of_mem)))) (by decide) (by decide)
    rw [decide_eq_true ⟨rfl, rfl, rfl⟩] at hsm
    replace hsm := Lib.hid hsm
    go_wp2_with fail
    refine hsm.out.mono ?_
    rintro e v8 ⟨rfl, hb⟩
    replace hL := hL.go hb
    clear hb hsm q0 q1 q2 r0 r1 r2
    have q0 := (hL.get (P := pBlk w.heap.size #[.bool neg, .slice A n c, .int .i64 k] 25) (by repeat (first | exact List.mem_cons_self | apply List.mem_cons_of_mem))).cell 0 _ rfl
    have q1 := (hL.get (P := pBlk w.heap.size #[.bool neg, .slice A n c, .int .i64 k] 25) (by repeat (first | exact List.mem_cons_self | apply List.mem_cons_of_mem))).cell 1 _ rfl
    have q2 := (hL.get (P := pBlk w.heap.size #[.bool neg, .slice A n c, .int .i64 k] 25) (by repeat (first | exact List.mem_cons_self | apply List.mem_cons_of_mem))).cell 2 _ rfl
    go_wp2_with fail
    refine (hrt.out _ (hW.below hL.below).tab (hL.get (P := pT (.slice A n c) 128 N) (by repeat (first | exact List.mem_cons_self | apply List.mem_cons_of_mem)))).mono ?_
    rintro e v9 ⟨rfl, hb⟩
    replace hL := hL.go hb
    clear hb q0 q1 q2 hrt
    go_wp2_with fail
    cases hs2 : unS (l.take m) with
    | some q =>
      obtain ⟨ng, N2, k2⟩ := q
      obtain ⟨hr2, hq2⟩ := unS_some hs2
      refine (unlay_is (l.take m) hml ng N2 k2 hs2 _ (hW.below hL.below)).mono ?_
      rintro e v5 ⟨u, rfl, hu, hb⟩
      replace hL := hL.go hb
      replace hL := hL.put (pT_st _ _ _) hu
      obtain ⟨A2, c2, zs2, rfl, -⟩ := id hu
      obtain ⟨n2, hn2⟩ : ∃ n, zs2.length = n := ⟨_, rfl⟩
      rw [hn2] at hL ⊢
      replace hL := (hL.go ((Below.refl _ _).alloc (Nat.le_refl _) (.cells #[.bool ng, .slice A2 n2 c2, .int .i64 k2] 25))).put (pBlk_st _ _ _) (pBlk_made v5 _ 25)
      clear hb hu hn2
      have hrt := right_t ng k2 (hW.below hL.below).tab (hL.get (P := pT (.slice A2 n2 c2) 128 N2) (by repeat (first | exact List.mem_cons_self | apply List.mem_cons_of_mem)))
      rw [decide_eq_true hr2] at hrt
      replace hrt := Lib.hid hrt
      go_wp2_with fail
      refine hrt.out.mono ?_
      rintro e v6 ⟨rfl, hb⟩
      replace hL := hL.go hb
      clear hb hrt
      have q0 := (hL.get (P := pBlk v5.heap.size #[.bool ng, .slice A2 n2 c2, .int .i64 k2] 25) (by repeat (first | exact List.mem_cons_self | apply List.mem_cons_of_mem))).cell 0 _ rfl
      have q1 := (hL.get (P := pBlk v5.heap.size #[.bool ng, .slice A2 n2 c2, .int .i64 k2] 25) (by repeat (first | exact List.mem_cons_self | apply List.mem_cons_of_mem))).cell 1 _ rfl
      have q2 := (hL.get (P := pBlk v5.heap.size #[.bool ng, .slice A2 n2 c2, .int .i64 k2] 25) (by repeat (first | exact List.mem_cons_self | apply List.mem_cons_of_mem))).cell 2 _ rfl
      have hly := layout_any ng k2 (hW.below hL.below).tab (hL.get (P := pT (.slice A2 n2 c2) 128 N2) (by repeat (first | exact List.mem_cons_self | apply List.mem_cons_of_mem)))
      rw [show lyR ng N2 k2 = l.take m by unfold lyR; rw [if_pos hr2, hq2]] at hly
      replace hly := Lib.hid hly
      clear hs2 hr2 hq2
      go_wp2_with fail
      refine hly.out.mono ?_
      rintro e v7 ⟨rfl, hb⟩
      replace hL := hL.go hb
      clear hb hly
      go_wp2
      go_ret
      exact ⟨rfl, hL.below⟩
    | none =>
      refine (unlay_no (l.take m) hml hs2 _ (hW.below hL.below)).mono ?_
      rintro e v5 ⟨rfl, hb⟩
      replace hL := hL.go hb
      clear hb hs2
      replace hL := (hL.go ((Below.refl _ _).alloc (Nat.le_refl _) (.cells #[.bool false, .slice none 0 0, .int .i64 0] 25)))
      have hsm := lsame_t (w := v5.alloc (.cells #[.bool false, .slice none 0 0, .int .i64 0] 25)) false false 0 0 (.nil _) (.nil _) (by decide) (by decide)
      rw [decide_eq_true ⟨rfl, rfl, rfl⟩] at hsm
      replace hsm := Lib.hid hsm
      go_wp2_with fail
      refine hsm.out.mono ?_
      rintro e v6 ⟨rfl, hb⟩
      replace hL := hL.go hb
      clear hb hsm
      go_wp2
      go_ret
      exact ⟨rfl, hL.below⟩
  · have hE : (strL []).toList.isEmpty = true := by rw [strL_toL']; rfl
    have hno' := Lib.hid (hno.below hb0)
    clear hno hb0
    go_enter Tryz.func5, Tryz.ntmps5
    go_wp2_with fail
    refine (lshown_any _ (hW.below hL.below)).mono ?_
    rintro e v1 ⟨rfl, hb⟩
    have hno1 := Lib.hid (hno'.out.below hb)
    replace hL := hL.go hb
    clear hb hno'
    have q0 := (hL.get (P := pBlk w.heap.size #[.bool neg, .slice A n c, .int .i64 k] 25) (by repeat (first | exact List.mem_cons_self | apply List.mem_cons_of_mem))).cell 0 _ rfl
    have q1 := (hL.get (P := pBlk w.heap.size #[.bool neg, .slice A n c, .int .i64 k] 25) (by repeat (first | exact List.mem_cons_self | apply List.mem_cons_of_mem))).cell 1 _ rfl
    have q2 := (hL.get (P := pBlk w.heap.size #[.bool neg, .slice A n c, .int .i64 k] 25) (by repeat (first | exact List.mem_cons_self | apply List.mem_cons_of_mem))).cell 2 _ rfl
    go_wp2_with fail
    refine ((hno1.out _ (Below.refl _ _)).2).mono ?_
    rintro e v2 ⟨rfl, hb⟩
    have hno2 := Lib.hid (hno1.out.below hb)
    replace hL := hL.go hb
    clear hb hno1 q0 q1 q2
    go_wp2_with fail
    refine (unlay_no [] (by decide) unS_nil _ (hW.below hL.below)).mono ?_
    rintro e v3 ⟨rfl, hb⟩
    have hno3 := Lib.hid ((hno2.out.below hb).below ((Below.refl _ _).alloc (Nat.le_refl _) (.cells #[.bool false, .slice none 0 0, .int .i64 0] 25)))
    replace hL := (hL.go hb).go ((Below.refl _ _).alloc (Nat.le_refl _) (.cells #[.bool false, .slice none 0 0, .int .i64 0] 25))
    clear hb hno2
    have q0 := (hL.get (P := pBlk w.heap.size #[.bool neg, .slice A n c, .int .i64 k] 25) (by repeat (first | exact List.mem_cons_self | apply List.mem_cons_of_mem))).cell 0 _ rfl
    have q1 := (hL.get (P := pBlk w.heap.size #[.bool neg, .slice A n c, .int .i64 k] 25) (by repeat (first | exact List.mem_cons_self | apply List.mem_cons_of_mem))).cell 1 _ rfl
    have q2 := (hL.get (P := pBlk w.heap.size #[.bool neg, .slice A n c, .int .i64 k] 25) (by repeat (first | exact List.mem_cons_self | apply List.mem_cons_of_mem))).cell 2 _ rfl
    go_wp2_with fail
    refine ((hno3.out _ (Below.refl _ _)).1).mono ?_
    rintro e v4 ⟨rfl, hb⟩
    have hno4 := Lib.hid (hno3.out.below hb)
    replace hL := hL.go hb
    clear hb hno3 q0 q1 q2
    have q0 := (hL.get (P := pBlk w.heap.size #[.bool neg, .slice A n c, .int .i64 k] 25) (by repeat (first | exact List.mem_cons_self | apply List.mem_cons_of_mem))).cell 0 _ rfl
    have q1 := (hL.get (P := pBlk w.heap.size #[.bool neg, .slice A n c, .int .i64 k] 25) (by repeat (first | exact List.mem_cons_self | apply List.mem_cons_of_mem))).cell 1 _ rfl
    have q2 := (hL.get (P := pBlk w.heap.size #[.bool neg, .slice A n c, .int .i64 k] 25) (by repeat (first | exact List.mem_cons_self | apply List.mem_cons_of_mem))).cell 2 _ rfl
    go_wp2_with fail
    refine ((hno4.out _ (Below.refl _ _)).1).mono ?_
    rintro e v9 ⟨rfl, hb⟩
    replace hL := hL.go hb
    clear hb hno4 q0 q1 q2
    go_wp2_with fail
    cases hs2 : unS (l.take m) with
    | some q =>
      obtain ⟨ng, N2, k2⟩ := q
      obtain ⟨hr2, hq2⟩ := unS_some hs2
      refine (unlay_is (l.take m) hml ng N2 k2 hs2 _ (hW.below hL.below)).mono ?_
      rintro e v5 ⟨u, rfl, hu, hb⟩
      replace hL := hL.go hb
      replace hL := hL.put (pT_st _ _ _) hu
      obtain ⟨A2, c2, zs2, rfl, -⟩ := id hu
      obtain ⟨n2, hn2⟩ : ∃ n, zs2.length = n := ⟨_, rfl⟩
      rw [hn2] at hL ⊢
      replace hL := (hL.go ((Below.refl _ _).alloc (Nat.le_refl _) (.cells #[.bool ng, .slice A2 n2 c2, .int .i64 k2] 25))).put (pBlk_st _ _ _) (pBlk_made v5 _ 25)
      clear hb hu hn2
      have hrt := right_t ng k2 (hW.below hL.below).tab (hL.get (P := pT (.slice A2 n2 c2) 128 N2) (by repeat (first | exact List.mem_cons_self | apply List.mem_cons_of_mem)))
      rw [decide_eq_true hr2] at hrt
      replace hrt := Lib.hid hrt
      go_wp2_with fail
      refine hrt.out.mono ?_
      rintro e v6 ⟨rfl, hb⟩
      replace hL := hL.go hb
      clear hb hrt
      have q0 := (hL.get (P := pBlk v5.heap.size #[.bool ng, .slice A2 n2 c2, .int .i64 k2] 25) (by repeat (first | exact List.mem_cons_self | apply List.mem_cons_of_mem))).cell 0 _ rfl
      have q1 := (hL.get (P := pBlk v5.heap.size #[.bool ng, .slice A2 n2 c2, .int .i64 k2] 25) (by repeat (first | exact List.mem_cons_self | apply List.mem_cons_of_mem))).cell 1 _ rfl
      have q2 := (hL.get (P := pBlk v5.heap.size #[.bool ng, .slice A2 n2 c2, .int .i64 k2] 25) (by repeat (first | exact List.mem_cons_self | apply List.mem_cons_of_mem))).cell 2 _ rfl
      have hly := layout_any ng k2 (hW.below hL.below).tab (hL.get (P := pT (.slice A2 n2 c2) 128 N2) (by repeat (first | exact List.mem_cons_self | apply List.mem_cons_of_mem)))
      rw [show lyR ng N2 k2 = l.take m by unfold lyR; rw [if_pos hr2, hq2]] at hly
      replace hly := Lib.hid hly
      clear hs2 hr2 hq2
      go_wp2_with fail
      refine hly.out.mono ?_
      rintro e v7 ⟨rfl, hb⟩
      replace hL := hL.go hb
      clear hb hly
      go_wp2
      go_ret
      exact ⟨rfl, hL.below⟩
    | none =>
      refine (unlay_no (l.take m) hml hs2 _ (hW.below hL.below)).mono ?_
      rintro e v5 ⟨rfl, hb⟩
      replace hL := hL.go hb
      clear hb hs2
      replace hL := (hL.go ((Below.refl _ _).alloc (Nat.le_refl _) (.cells #[.bool false, .slice none 0 0, .int .i64 0] 25)))
      have hsm := lsame_t (w := v5.alloc (.cells #[.bool false, .slice none 0 0, .int .i64 0] 25)) false false 0 0 (.nil _) (.nil _) (by decide) (by decide)
      rw [decide_eq_true ⟨rfl, rfl, rfl⟩] at hsm
      replace hsm := Lib.hid hsm
      go_wp2_with fail
      refine hsm.out.mono ?_
      rintro e v6 ⟨rfl, hb⟩
      replace hL := hL.go hb
      clear hb hsm
      go_wp2
      go_ret
      exact ⟨rfl, hL.below⟩
end Go.Proofs.YtjhdkdfiadlmcaaGreatDoor
