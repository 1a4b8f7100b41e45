/- Values: the functions of the kinds, a form's shape, walked. Conditions: the tables of the forms, of the kinds' functions, the library's table of noughts. -/
/- Rows over the values: the variables out of the row's condition: the table of the forms, the kinds' functions, the library's table of noughts. Conditions: none. -/
/- Rows over the values: the map of the kinds' functions out of the row's condition. Conditions: none. -/
/- Rows over the values: a start: the door's own heap, and the library's table of bytes. Conditions: none. -/
/- Rows over a script: the start meets the rows' condition. Conditions: none. -/
/- The document's posits: bits as a text, walked. Conditions: none. -/
/- The document's magnitudes: halves, powers of two, the forms with mantissas; walked. Conditions: none. -/
import Derived.Test.YtncfbleeidjflaaGreatDoorSu19
import Derived.Test.YtncfbleeidjflaaGreatDoorSu13
import Derived.Test.YtncfbleeidjflaaGreatDoorSu01
import Derived.Test.YtncfbleeidjflaaGreatDoorSu05
import Derived.Test.YtncfbleeidjflaaGreatDoorSu15
import Derived.Test.YtncfbleeidjflaaGreatDoorSu10
import Derived.LaidHandle
import Derived.LaidMore
import Derived.Maps.Keyed
import Derived.WideKeyElems2
import Derived.LaidOnce
namespace Go.Proofs.YtncfbleeidjflaaGreatDoor
open Go.RowKit Go.Cal
/-- The function of a kind. -/
def numI (k : Int) : Nat := if k = 1 then 255 else if k = 2 then 257 else if k = 3 then 259 else 261
/-- The table of the kinds' functions stands in its variable. -/
def NumW (w : World) : Prop := 2 < w.heap.size ∧ ∃ mv, w.cell? ⟨2, 0, none⟩ = some mv ∧ ∀ wr, Below w.heap.size w wr → (∀ k : Int, 1 ≤ k → k ≤ 4 → (Instr.lookup 222 mv (.int .i64 k) false).run Tryz.prog wr = .ok (.func (.func (numI k)) #[] #[]) wr) ∧ (Instr.lookup 222 mv (.int .i64 0) false).run Tryz.prog wr = .ok .nilFunc wr
theorem NumW.below {w w' : World} (h : NumW w) (hb : Below w.heap.size w w') : NumW w' := by
  obtain ⟨h1, mv, h2, h3⟩ := h
  exact ⟨Nat.lt_of_lt_of_le h1 hb.size, mv, by rw [(bcell hb).1 _ _ h1]; exact h2, fun wr hr => h3 wr (hb.trans (hr.mono hb.size))⟩
/-- The variables that values read. -/
structure VaW (w : World) : Prop where
  frm : TabF w
  num : NumW w
  bru : TabD w
theorem VaW.below {w w' : World} (h : VaW w) (hb : Below w.heap.size w w') : VaW w' := ⟨h.frm.below hb, h.num.below hb, h.bru.below hb⟩
theorem fK_bnd (id : Int) : 1 ≤ fK id ∧ fK id ≤ 4 := by unfold fK; split <;> omega
set_option maxRecDepth 100000 in
set_option maxHeartbeats 1000000 in
theorem vof_yes (id : Int) (h1 : 1 ≤ id) (h2 : id < 15) (w : World) (hW : VaW w) :
    Calls Tryz.prog 136 #[.int .i64 id] w fun e w' => e = .returned (.tuple #[.agg #[.int .i64 (fK id), .int .i64 (fW id), .int .i64 (fM id), .int .i64 (fB id), .int .u64 (fT id), .int .u64 (fI id), .int .u64 (fN id), .func (.func (numI (fK id))) #[] #[]], .int .i64 0]) ∧ Below w.heap.size w w' := by
  have hk := fK_bnd id
  go_enter Tryz.func136, Tryz.ntmps136
  go_wp2_with fail
  refine (fo_of id _ (hW.frm.below ((Below.refl _ _).alloc (Nat.le_refl _) _)) h1 h2).mono ?_
  rintro e w1 ⟨rfl, hb⟩
  have hB : Below w.heap.size w w1 := ((Below.refl _ _).alloc (Nat.le_refl _) _).trans (hb.mono (by simp))
  obtain ⟨hn1, mv, hn2, hn3⟩ := hW.num.below hB
  have hl := (hn3 (w1.alloc (.cells #[.int .i64 (fK id), .int .i64 (fW id), .int .i64 (fM id), .int .i64 (fB id), .int .u64 (fT id), .int .u64 (fI id), .int .u64 (fN id)] 58)) ((Below.refl _ _).alloc (Nat.le_refl _) _)).1 (fK id) hk.1 hk.2
  clear hn3
  have hz := hb.size
  simp at hz
  have hp := pBlk_st _ _ _ _ _ (pBlk_st _ _ _ _ _ (pBlk_made w #[.int .i64 0, .int .i64 0, .int .i64 0, .int .i64 0, .int .u64 0, .int .u64 0, .int .u64 0, .nilFunc] 190) hb) ((Below.refl _ _).alloc (Nat.le_refl _) (.cells #[.int .i64 (fK id), .int .i64 (fW id), .int .i64 (fM id), .int .i64 (fB id), .int .u64 (fT id), .int .u64 (fI id), .int .u64 (fN id)] 58))
  have hi : (Tryz.prog.info? 190).map (·.size) = some 8 := by kernel_rfl
  have hone : (#[.int .i64 (fK id), .int .i64 (fW id), .int .i64 (fM id), .int .i64 (fB id), .int .u64 (fT id), .int .u64 (fI id), .int .u64 (fN id), .func (.func (numI (fK id))) #[] #[]] : Array Value).all (·.oneCell') = true := by simp [Value.oneCell']
  go_wp2_with ((with_reducible show wpList _ _ _ (Oper.mk _ (Op.store 190 _ _) _ _ _ _ :: _) _ _); refine wpList_store_whole _ rfl 190 _ _ rfl w.heap.size #[.int .i64 (fK id), .int .i64 (fW id), .int .i64 (fM id), .int .i64 (fB id), .int .u64 (fT id), .int .u64 (fI id), .int .u64 (fN id), .func (.func (numI (fK id))) #[] #[]] #[.int .i64 0, .int .i64 0, .int .i64 0, .int .i64 0, .int .u64 0, .int .u64 0, .int .u64 0, .nilFunc] 190 rfl rfl hp hi rfl hone ?_; intro w2 hp2 hb2 hz2)
  have hB2 : Below w.heap.size w w2 := (hB.alloc hB.size _).trans hb2
  replace hp2 : pBlk w.heap.size #[.int .i64 (fK id), .int .i64 (fW id), .int .i64 (fM id), .int .i64 (fB id), .int .u64 (fT id), .int .u64 (fI id), .int .u64 (fN id), .func (.func (numI (fK id))) #[] #[]] 190 w2 := hp2
  have r0 := hp2.cell 0 _ rfl
  have r1 := hp2.cell 1 _ rfl
  have r2 := hp2.cell 2 _ rfl
  have r3 := hp2.cell 3 _ rfl
  have r4 := hp2.cell 4 _ rfl
  have r5 := hp2.cell 5 _ rfl
  have r6 := hp2.cell 6 _ rfl
  have r7 := hp2.cell 7 _ rfl
  clear hp2 hl hp
  exact bodyPost_ret (v := .tuple #[.agg #[.int .i64 (fK id), .int .i64 (fW id), .int .i64 (fM id), .int .i64 (fB id), .int .u64 (fT id), .int .u64 (fI id), .int .u64 (fN id), .func (.func (numI (fK id))) #[] #[]], .int .i64 0]) (by simp [results, Tryz.results136, go_sem, r0, r1, r2, r3, r4, r5, r6, r7]) rfl ⟨rfl, hB2⟩
set_option maxRecDepth 100000 in
set_option maxHeartbeats 1000000 in
theorem vof_no (id : Int) (h1 : id < 1 ∨ 15 ≤ id) (w : World) (hW : VaW w) :
    Calls Tryz.prog 136 #[.int .i64 id] w fun e w' => e = .returned (.tuple #[.agg #[.int .i64 0, .int .i64 0, .int .i64 0, .int .i64 0, .int .u64 0, .int .u64 0, .int .u64 0, .nilFunc], .int .i64 3]) ∧ Below w.heap.size w w' := by
  have hfn := Lib.hid (fun w => fo_none id w h1)
  clear h1
  go_enter Tryz.func136, Tryz.ntmps136
  go_wp2_with fail
  refine (hfn.out _).mono ?_
  rintro e w1 ⟨rfl, hb⟩
  have hB : Below w.heap.size w w1 := ((Below.refl _ _).alloc (Nat.le_refl _) _).trans (hb.mono (by simp))
  obtain ⟨hn1, mv, hn2, hn3⟩ := hW.num.below hB
  have hl := (hn3 (w1.alloc (.cells #[.int .i64 0, .int .i64 0, .int .i64 0, .int .i64 0, .int .u64 0, .int .u64 0, .int .u64 0] 58)) ((Below.refl _ _).alloc (Nat.le_refl _) _)).2
  clear hn3
  have hz := hb.size
  simp at hz
  have hp := pBlk_st _ _ _ _ _ (pBlk_st _ _ _ _ _ (pBlk_made w #[.int .i64 0, .int .i64 0, .int .i64 0, .int .i64 0, .int .u64 0, .int .u64 0, .int .u64 0, .nilFunc] 190) hb) ((Below.refl _ _).alloc (Nat.le_refl _) (.cells #[.int .i64 0, .int .i64 0, .int .i64 0, .int .i64 0, .int .u64 0, .int .u64 0, .int .u64 0] 58))
  have hi : (Tryz.prog.info? 190).map (·.size) = some 8 := by kernel_rfl
  have hone : (#[.int .i64 0, .int .i64 0, .int .i64 0, .int .i64 0, .int .u64 0, .int .u64 0, .int .u64 0, .nilFunc] : Array Value).all (·.oneCell') = true := by simp [Value.oneCell']
  go_wp2_with ((with_reducible show wpList _ _ _ (Oper.mk _ (Op.store 190 _ _) _ _ _ _ :: _) _ _); refine wpList_store_whole _ rfl 190 _ _ rfl w.heap.size #[.int .i64 0, .int .i64 0, .int .i64 0, .int .i64 0, .int .u64 0, .int .u64 0, .int .u64 0, .nilFunc] #[.int .i64 0, .int .i64 0, .int .i64 0, .int .i64 0, .int .u64 0, .int .u64 0, .int .u64 0, .nilFunc] 190 rfl rfl hp hi rfl hone ?_; intro w2 hp2 hb2 hz2)
  have hB2 : Below w.heap.size w w2 := (hB.alloc hB.size _).trans hb2
  replace hp2 : pBlk w.heap.size #[.int .i64 0, .int .i64 0, .int .i64 0, .int .i64 0, .int .u64 0, .int .u64 0, .int .u64 0, .nilFunc] 190 w2 := hp2
  have r0 := hp2.cell 0 _ rfl
  have r1 := hp2.cell 1 _ rfl
  have r2 := hp2.cell 2 _ rfl
  have r3 := hp2.cell 3 _ rfl
  have r4 := hp2.cell 4 _ rfl
  have r5 := hp2.cell 5 _ rfl
  have r6 := hp2.cell 6 _ rfl
  have r7 := hp2.cell 7 _ rfl
  clear hp2 hl hp
  exact bodyPost_ret (v := .tuple #[.agg #[.int .i64 0, .int .i64 0, .int .i64 0, .int .i64 0, .int .u64 0, .int .u64 0, .int .u64 0, .nilFunc], .int .i64 3]) (by simp [results, Tryz.results136, go_sem, r0, r1, r2, r3, r4, r5, r6, r7]) rfl ⟨rfl, hB2⟩
theorem shape_size : (Tryz.prog.info? 190).map (·.size) = some 8 := by kernel_rfl
theorem cells8 {w : World} {g : Nat} {a b c d e f h i : Value} {t : TypeId} (hp : w.heap[g]? = some (.cells #[a, b, c, d, e, f, h, i] t (0, 0))) :
    w.cell? ⟨g, 0, none⟩ = some a ∧ w.cell? ⟨g, 1, none⟩ = some b ∧ w.cell? ⟨g, 2, none⟩ = some c ∧ w.cell? ⟨g, 3, none⟩ = some d ∧ w.cell? ⟨g, 4, none⟩ = some e ∧ w.cell? ⟨g, 5, none⟩ = some f ∧ w.cell? ⟨g, 6, none⟩ = some h ∧ w.cell? ⟨g, 7, none⟩ = some i := by
  have hp : pBlk g #[a, b, c, d, e, f, h, i] t w := hp
  exact ⟨hp.cell 0 _ rfl, hp.cell 1 _ rfl, hp.cell 2 _ rfl, hp.cell 3 _ rfl, hp.cell 4 _ rfl, hp.cell 5 _ rfl, hp.cell 6 _ rfl, hp.cell 7 _ rfl⟩
/-- What Most tells. -/
def mostR (id : Int) (neg : Bool) : Int := if mostE id neg = 0 then mostV id neg else 0
theorem most_cases (id : Int) (neg : Bool) : ((id < 1 ∨ 15 ≤ id) ∧ mostE id neg = 3 ∧ mostR id neg = 0) ∨ (1 ≤ id ∧ id < 15 ∧
    ((neg = false ∧ mostE id neg = 0 ∧ mostR id neg = fT id) ∨ (neg = true ∧ (fK id == 4) = true ∧ mostE id neg = 5 ∧ mostR id neg = 0) ∨
     (neg = true ∧ (fK id == 4) = false ∧ (fK id == 3) = true ∧ 0 ≤ fT id ∧ fT id ≤ 127 ∧ mostE id neg = 0 ∧ mostR id neg = fT id + 1) ∨ (neg = true ∧ (fK id == 4) = false ∧ (fK id == 3) = false ∧ mostE id neg = 0 ∧ mostR id neg = fT id))) := by
  by_cases hid : id < 1 ∨ 15 ≤ id
  · left
    have hE : mostE id neg = 3 := by unfold mostE; rw [if_pos hid]
    exact ⟨hid, hE, by unfold mostR; rw [hE]; rfl⟩
  · right
    have h1 : 1 ≤ id := by omega
    have h2 : id < 15 := by omega
    refine ⟨h1, h2, ?_⟩
    rcases id_cases h1 h2 with rfl | rfl | rfl | rfl | rfl | rfl | rfl | rfl | rfl | rfl | rfl | rfl | rfl | rfl <;> cases neg <;> decide +kernel
set_option maxRecDepth 100000 in
set_option maxHeartbeats 1000000 in
theorem vmost_any (id : Int) (neg : Bool) (w : World) (hW : VaW w) :
    Calls Tryz.prog 145 #[.int .i64 id, .bool neg] w fun e w' => e = .returned (.tuple #[.int .u64 (mostR id neg), .int .i64 (mostE id neg)]) ∧ Below w.heap.size w w' := by
  rcases most_cases id neg with ⟨hid, hE, hR⟩ | ⟨h1, h2, ⟨rfl, hE, hR⟩ | ⟨rfl, h4, hE, hR⟩ | ⟨rfl, h4, h3, hT, hT', hE, hR⟩ | ⟨rfl, h4, h3, hE, hR⟩⟩
  · rw [hE, hR]
    have hfn := Lib.hid (fun w hW => vof_no id hid w hW)
    clear hid hE hR
    go_enter Tryz.func145, Tryz.ntmps145
    go_wp2_with fail
    refine (hfn.out _ hW).mono ?_
    rintro e w1 ⟨rfl, hb⟩
    go_wp2_with ((with_reducible show wpList _ _ _ (Oper.mk _ (Op.store 190 _ _) _ _ _ _ :: _) _ _); refine wpList_store_whole _ rfl 190 _ _ rfl (w1).heap.size #[.int .i64 0, .int .i64 0, .int .i64 0, .int .i64 0, .int .u64 0, .int .u64 0, .int .u64 0, .nilFunc] #[.int .i64 0, .int .i64 0, .int .i64 0, .int .i64 0, .int .u64 0, .int .u64 0, .int .u64 0, .nilFunc] 190 rfl rfl (pBlk_made w1 #[.int .i64 0, .int .i64 0, .int .i64 0, .int .i64 0, .int .u64 0, .int .u64 0, .int .u64 0, .nilFunc] 190) shape_size rfl (by simp [Value.oneCell']) ?_; intro w2 hp2 hb2 hz2; obtain ⟨r0, r1, r2, r3, r4, r5, r6, r7⟩ := cells8 hp2)
    go_ret2
    exact ⟨rfl, (hb.alloc hb.size _).trans (hb2.mono hb.size)⟩
  all_goals
    rw [hE, hR]
    have hfn := Lib.hid (fun w hW => vof_yes id h1 h2 w hW)
    have hk := fK_bnd id
    clear hE hR
    go_enter Tryz.func145, Tryz.ntmps145
    go_wp2_with fail
    refine (hfn.out _ hW).mono ?_
    rintro e w1 ⟨rfl, hb⟩
    go_wp2_with ((with_reducible show wpList _ _ _ (Oper.mk _ (Op.store 190 _ _) _ _ _ _ :: _) _ _); refine wpList_store_whole _ rfl 190 _ _ rfl (w1).heap.size #[.int .i64 (fK id), .int .i64 (fW id), .int .i64 (fM id), .int .i64 (fB id), .int .u64 (fT id), .int .u64 (fI id), .int .u64 (fN id), .func (.func (numI (fK id))) #[] #[]] #[.int .i64 0, .int .i64 0, .int .i64 0, .int .i64 0, .int .u64 0, .int .u64 0, .int .u64 0, .nilFunc] 190 rfl rfl (pBlk_made w1 #[.int .i64 0, .int .i64 0, .int .i64 0, .int .i64 0, .int .u64 0, .int .u64 0, .int .u64 0, .nilFunc] 190) shape_size rfl (by simp [Value.oneCell']) ?_; intro w2 hp2 hb2 hz2; obtain ⟨r0, r1, r2, r3, r4, r5, r6, r7⟩ := cells8 hp2)
    go_ret2
    exact ⟨rfl, (hb.alloc hb.size _).trans (hb2.mono hb.size)⟩
end Go.Proofs.YtncfbleeidjflaaGreatDoor
namespace Go.Proofs.YtncfbleeidjflaaGreatDoor
open Go.ChangeShapes Go.WideShapes Go.ChangeAt Go.RowKit Go.Cal
theorem plain_of_laid {W : World} {l : List (String × DataW Unit)} (h : laidMetH Tryz.prog l W) (hp : ((l.filter fun x => x.2.handleName?.isNone).all fun x => x.2.handleName?.isNone) = true) : laidMet Tryz.prog (l.filter fun x => x.2.handleName?.isNone) W := by
  have h1 := h.filter (fun x => x.2.handleName?.isNone)
  rwa [MakeChecks.laidMetH_plain _ _ _ hp] at h1
theorem gFormsX : Tryz.prog.globalNamed "caliper/forms.forms" = some 1 := by kernel_rfl
theorem tFormsX : (Tryz.prog.globals[1]?).map (·.type) = some 128 := by kernel_rfl
theorem plainFormsX : plainT Tryz.prog 3 128 = true := by kernel_rfl
theorem tabF_of_laid {W : World} {laid : List (String × DataW Unit)} (h : laidMet Tryz.prog laid W) (hm : ("caliper/forms.forms", Rows.laid_caliper_forms_forms) ∈ laid) : TabF W := by
  obtain ⟨ps, hl, _⟩ := h
  obtain ⟨g0, t0, cs0, f0, p0, hg0, ht0, hv0, hd0⟩ := laidVars_mem hl hm
  obtain rfl := Option.some.inj (gFormsX.symm.trans hg0)
  obtain rfl := Option.some.inj (tFormsX.symm.trans ht0)
  have hcs := cells_flat 3 _ _ _ _ _ plainFormsX hd0
  have hc : ∀ i v, cs0[i]? = some v → W.cell? ⟨1, i, none⟩ = some v := fun i v hi => by rw [World.var?_cell hg0 hv0 i]; exact hi
  have hc' : ∀ (i : Nat) v, (flat 3 (Rows.laid_caliper_forms_forms (H := Unit)))[i]? = some v → W.cell? ⟨1, i, none⟩ = some v := fun i v hi => hc i v (by rw [← Array.getElem?_toList, hcs]; exact hi)
  refine ⟨World.block_lt_of_cell? W ⟨1, 0, none⟩ (hc' 0 _ rfl), fun id h1 h2 => ?_⟩
  rcases id_cases h1 h2 with rfl | rfl | rfl | rfl | rfl | rfl | rfl | rfl | rfl | rfl | rfl | rfl | rfl | rfl <;>
    exact ⟨hc' _ _ rfl, hc' _ _ rfl, hc' _ _ rfl, hc' _ _ rfl, hc' _ _ rfl, hc' _ _ rfl, hc' _ _ rfl⟩
theorem tabD_of_laid {W : World} {laid : List (String × DataW Unit)} (h : laidMet Tryz.prog laid W) (hm : ("math/bits.deBruijn64tab", Rows.laid_math_bits_deBruijn64tab) ∈ laid) : TabD W := by
  obtain ⟨ps, hl, _⟩ := h
  obtain ⟨g, t, cs, fuel, p, h1, h2, h3, h4⟩ := laidVars_mem hl hm
  obtain rfl := Option.some.inj ((show Tryz.prog.globalNamed "math/bits.deBruijn64tab" = some 12 by kernel_rfl).symm.trans h1)
  obtain rfl := Option.some.inj ((show (Tryz.prog.globals[12]?).map (·.type) = some 274 by kernel_rfl).symm.trans h2)
  have h5 := Lib.cells_of_tab (k := .u8) (zs := Lib.deBruijn64tab.map fun (n : Nat) => (n : Int)) Tryz.underlying274 Tryz.underlying5 (by kernel_rfl) (by kernel_rfl) h4
  have hc : ∀ j, j < 64 → W.cell? ⟨12, j, none⟩ = some (.int .u8 (Lib.deBruijn64tab.getD j 0 : Nat)) := fun j hj => by
    rw [World.var?_cell h1 h3 j, ← Array.getElem?_toList, h5]
    rw [List.getElem?_map, List.getElem?_map, List.getD_eq_getElem?_getD, List.getElem?_eq_getElem (show j < Lib.deBruijn64tab.length from hj)]
    rfl
  exact ⟨World.block_lt_of_cell? W ⟨12, 0, none⟩ (hc 0 (by decide)), fun j hj => hc j hj⟩
end Go.Proofs.YtncfbleeidjflaaGreatDoor
namespace Go.Proofs.YtncfbleeidjflaaGreatDoor
open Go.ChangeShapes Go.WideShapes Go.ChangeAt Go.RowKit Go.Cal Go.Maps
def fnBytes (b : UInt8) : List UInt8 := [99, 97, 108, 105, 112, 101, 114, 47, 118, 97, 108, 117, 101, 46, 110, 117, 109, 98, 101, 114, 115, 36, b]
theorem law_int : Keyed Tryz.prog 3 := int_keyed Tryz.underlying3
theorem zero_func (w : World) : (zeroValue 188).run Tryz.prog w = .ok .nilFunc w := by kernel_rfl
theorem cells_func {v : Value} (h : v.formed Tryz.prog 188 = true) : v.cells.toList = [v] := by
  cases v with
  | agg cs => simp [Value.formed, Tryz.underlying188] at h
  | _ => rfl
theorem num_one {W wr : World} {b n : Nat} {es : Array MapEntry} {clock : Nat} (hb : wr.heap[b]? = some (.map es clock)) (F : Go.WideElems.Fit Tryz.prog 3 (Go.WideElems.elemAt (funcToken Tryz.prog) Tryz.prog W 0 (fun _ => true) true n 188) es clock) (k : Int) (by1 : UInt8) (f0 : FuncId) (hwf : (Lit.int .i64 k).wf = true)
    (hD : ∀ zd : DataW (List UInt8), (DataW.map ((es.toList.map (Go.WideElems.rg Tryz.prog 3 (Go.WideElems.elemAt (funcToken Tryz.prog) Tryz.prog W 0 (fun _ => true) true n 188))).foldr DataW.insert [])).atKey (.int .i64 k) zd = .held (fnBytes by1))
    (hone : ((List.range Tryz.prog.funcs.size).filter fun f => (Tryz.prog.funcs[f]?).any (·.name.toUTF8.data.toList == fnBytes by1)) = [f0]) :
    (Instr.lookup 222 (.map (some b)) (.int .i64 k) false).run Tryz.prog wr = .ok (.func (.func f0) #[] #[]) wr := by
  have hkey : keyOf Tryz.prog 3 (.int .i64 k) = some (.int .i64 k) := keyOf_int_mk Tryz.underlying3 hwf
  rcases fit_look false law_int Tryz.underlying222 (zero_func wr) hb F hkey with ⟨_, _, hz⟩ | ⟨e0, y, _, _, hrun, hR, hy, _⟩
  · have := (hz .nil).symm.trans (hD .nil)
    cases this
  · have h1 : y.1 = .held (fnBytes by1) := (hy .nil).symm.trans (hD .nil)
    unfold Go.WideElems.elemAt at hR
    split at hR
    · rename_i hf
      rw [cells_func hf] at hR
      obtain ⟨d, q⟩ := y
      subst h1
      have := func_of_trod (f0 := f0) Tryz.underlying188 hone hR
      rw [hrun]
      simp [this]
    · cases hR
theorem num_none {W wr : World} {b n : Nat} {es : Array MapEntry} {clock : Nat} (hb : wr.heap[b]? = some (.map es clock)) (F : Go.WideElems.Fit Tryz.prog 3 (Go.WideElems.elemAt (funcToken Tryz.prog) Tryz.prog W 0 (fun _ => true) true n 188) es clock)
    (hD : ∀ zd : DataW (List UInt8), (DataW.map ((es.toList.map (Go.WideElems.rg Tryz.prog 3 (Go.WideElems.elemAt (funcToken Tryz.prog) Tryz.prog W 0 (fun _ => true) true n 188))).foldr DataW.insert [])).atKey (.int .i64 0) zd = zd) :
    (Instr.lookup 222 (.map (some b)) (.int .i64 0) false).run Tryz.prog wr = .ok .nilFunc wr := by
  have hkey : keyOf Tryz.prog 3 (.int .i64 0) = some (.int .i64 0) := keyOf_int_mk Tryz.underlying3 (by decide)
  rcases fit_look false law_int Tryz.underlying222 (zero_func wr) hb F hkey with ⟨hrun, _, hz⟩ | ⟨e0, y, _, _, hrun, hR, hy, _⟩
  · rw [hrun]; rfl
  · have h1 := (hy .nil).symm.trans (hD .nil)
    have h2 := (hy (.agg [])).symm.trans (hD (.agg []))
    rw [h1] at h2
    cases h2
theorem numW_of_laid {W : World} {laid : List (String × DataW Unit)} (h : laidMetH Tryz.prog laid W) (hm : ("caliper/value.numbers", Rows.laid_caliper_value_numbers) ∈ laid) : NumW W := by
  obtain ⟨g, t, cs, fuel, p, hg, ht, hv, hd⟩ := h.funcs hm
  obtain rfl := Option.some.inj ((show Tryz.prog.globalNamed "caliper/value.numbers" = some 2 by kernel_rfl).symm.trans hg)
  obtain rfl := Option.some.inj ((show (Tryz.prog.globals[2]?).map (·.type) = some 222 by kernel_rfl).symm.trans ht)
  have hd' : DataW.trod (funcToken Tryz.prog) Tryz.prog W 0 (fun _ => true) true fuel 222 cs.toList = some (.map [(.int .i64 1, .held (fnBytes 49)), (.int .i64 2, .held (fnBytes 50)), (.int .i64 3, .held (fnBytes 51)), (.int .i64 4, .held (fnBytes 52))], p) := hd
  rcases Go.WideElems.open_map Tryz.underlying222 hd' with ⟨_, hx⟩ | ⟨b, es, clock, n, _, hcs, hb, _, F, hx⟩
  · cases hx
  · simp only [Prod.mk.injEq] at hx
    obtain ⟨hD, _⟩ := hx
    have hc : W.cell? ⟨2, 0, none⟩ = some (.map (some b)) := by
      have := World.var?_cell hg hv 0
      rw [Array.eq_one_of_toList hcs] at this
      simpa using this
    have hbl : b < W.heap.size := (Array.getElem?_eq_some_iff.1 hb).1
    refine ⟨World.block_lt_of_cell? W ⟨2, 0, none⟩ hc, _, hc, fun wr hr => ?_⟩
    have hbr : wr.heap[b]? = some (.map es clock) := by rw [hr.block b hbl]; exact hb
    refine ⟨fun k k1 k4 => ?_, num_none hbr F fun zd => by rw [← hD]; rfl⟩
    have hk : k = 1 ∨ k = 2 ∨ k = 3 ∨ k = 4 := by omega
    rcases hk with rfl | rfl | rfl | rfl
    · exact num_one hbr F 1 49 255 (by decide) (fun zd => by rw [← hD]; rfl) (by kernel_rfl)
    · exact num_one hbr F 2 50 257 (by decide) (fun zd => by rw [← hD]; rfl) (by kernel_rfl)
    · exact num_one hbr F 3 51 259 (by decide) (fun zd => by rw [← hD]; rfl) (by kernel_rfl)
    · exact num_one hbr F 4 52 261 (by decide) (fun zd => by rw [← hD]; rfl) (by kernel_rfl)
theorem vaW_of_laid {W : World} {laid : List (String × DataW Unit)} (h : laidMetH Tryz.prog laid W) (hp : ((laid.filter fun x => x.2.handleName?.isNone).all fun x => x.2.handleName?.isNone) = true)
    (h1 : ("caliper/forms.forms", Rows.laid_caliper_forms_forms) ∈ laid.filter fun x => x.2.handleName?.isNone) (h2 : ("caliper/value.numbers", Rows.laid_caliper_value_numbers) ∈ laid) (h3 : ("math/bits.deBruijn64tab", Rows.laid_math_bits_deBruijn64tab) ∈ laid.filter fun x => x.2.handleName?.isNone) : VaW W :=
  ⟨tabF_of_laid (plain_of_laid h hp) h1, numW_of_laid h h2, tabD_of_laid (plain_of_laid h hp) h3⟩
end Go.Proofs.YtncfbleeidjflaaGreatDoor
namespace Go.Proofs.YtncfbleeidjflaaGreatDoor
open Go.ChangeShapes Go.WideShapes Go.ChangeAt Go.RowKit Go.Cal
noncomputable def startW (os : Os) : World :=
  { World.doorLaid Tryz.prog 600 os with heap := (World.doorLaid Tryz.prog 600 os).heap.setIfInBounds 7 ((World.laidAll Tryz.prog os [("unicode/utf8.first", Rows.laid_unicode_utf8_first)]).heap.getD 7 (.cells #[] 0 (0, 0))) }
end Go.Proofs.YtncfbleeidjflaaGreatDoor
namespace Go.Proofs.YtncfbleeidjflaaGreatDoor
open Go.ChangeShapes Go.WideShapes Go.ChangeAt Go.RowKit Go.Cal
theorem laidMet_of_bits {P : Program} {w : World} {l : List (String × DataW Unit)} (fuel M : Nat) (h : (DataW.laidRun P w fuel (l.map (·.1))).map (·.1) = some l)
    (hr : (DataW.laidRun P w fuel (l.map (·.1))).map (fun x => nodupBits M x.2 0 && laidRowsB P w x.2) = some true) : laidMet P l w := by
  cases hx : DataW.laidRun P w fuel (l.map (·.1)) with
  | none => simp [hx] at h
  | some x =>
    obtain ⟨l', ps⟩ := x
    simp only [hx, Option.map_some, Option.some.injEq] at h hr
    subst h
    simp only [Bool.and_eq_true] at hr
    exact laidMet_of_run fuel hx (decide_eq_true (nodupBits_sound hr.1).1) hr.2
end Go.Proofs.YtncfbleeidjflaaGreatDoor
namespace Go.Proofs.YtncfbleeidjflaaGreatDoor
open Go.RowKit Go.Cal
theorem bit_conv (w : World) (c : UInt8) (v : Value) (hv : v = .int .u8 (c.toNat : Nat)) (s : Nat) (hs : w.heap.size = s) : (convert 66 9 (.slice (some ⟨s, 0, none⟩) 1 1)).run Tryz.prog (w.alloc (.cells #[v] 5)) = .ok (.string (strL [c])) (w.alloc (.cells #[v] 5)) := by
  subst hv; subst hs
  exact conv_bytes (l := [c]) 1 (ownB_lit w w.heap.size [c] 0 0 #[.int .u8 (c.toNat : Nat)] rfl (Nat.le_refl _) (by unfold maxLen; simp) (.inr rfl)).rd
theorem key_half (key j : Nat) : key / 2 ^ j / 2 = key / 2 ^ (j + 1) := by rw [Nat.div_div_eq_div_mul, Nat.pow_succ]
set_option maxRecDepth 100000 in
set_option maxHeartbeats 2000000 in
theorem rbits5_any (n key : Nat) (hn : 2 ≤ n) (hn' : n ≤ 64) (h0 : 0 < key) (hk : key < 2 ^ n) (w : World) : Calls Tryz.prog 208 #[.int .i64 ((n : Int) + 1), .int .u64 (key : Nat)] w fun e w' => e = .returned (.tuple #[.string (strL (bitS n key)), .bool true]) ∧ Below w.heap.size w w' := by
  have hk64 : key < 18446744073709551616 := Nat.lt_of_lt_of_le hk (Nat.le_trans (Nat.pow_le_pow_right (by decide) hn') (by decide))
  have q1 : ¬ (n : Int) + 1 < 3 := by omega
  have q2 : ¬ (65 : Int) < (n : Int) + 1 := by omega
  have q3 : ¬ (key : Int) = 0 := by omega
  have q4 : ¬ key = 0 := by omega
  go_enter Tryz.func208, Tryz.ntmps208
  go_wp2_with fail
  go_loopg [1, 6, 7] n (fun g kv sv iv wr => ∃ j : Nat, kv = .int .u64 ((key / 2 ^ j : Nat) : Int) ∧ sv = .string (strL (bitS j key)) ∧ iv = .int .i64 ((j : Int) + 1) ∧ j + g = n ∧ Below w.heap.size w wr)
  case atStart => exact ⟨0, by simp, rfl, rfl, by omega, Below.refl _ _⟩
  case round =>
    obtain ⟨j, rfl, rfl, rfl, hjg, hB⟩ := hrel
    by_cases hj : j < n
    · obtain ⟨q, hq⟩ : ∃ q, key / 2 ^ j = q := ⟨_, rfl⟩
      have hq2 : key / 2 ^ (j + 1) = q / 2 := by rw [← hq, key_half]
      have hqb : q < 18446744073709551616 := by rw [← hq]; exact Nat.lt_of_le_of_lt (Nat.div_le_self _ _) hk64
      obtain ⟨b, hb⟩ : ∃ b, q % 2 = b := ⟨_, rfl⟩
      have hb2 : b < 2 := by omega
      obtain ⟨c, hc⟩ : ∃ c, UInt8.ofNat (48 + b) = c := ⟨_, rfl⟩
      have hcn : (c.toNat : Int) = 48 + (b : Int) := by rw [← hc, bit_byte b hb2]; omega
      have hS : bitS (j + 1) key = c :: bitS j key := by rw [bitS, hq, hb, hc]
      have hcat : strL [c] ++ strL (bitS j key) = strL (bitS (j + 1) key) := by rw [hS]; exact strL_app [c] _
      have hbi : (q : Int) % 2 = (b : Int) := by omega
      have hz1 : (strL [c]).size = 1 := strL_size _
      have hz2 : (strL (bitS j key)).size = j := by rw [strL_size, bitS_len]
      have hz3 : ¬ 9223372036854775807 < 1 + j := by omega
      have hw8 : IntKind.u8.wrap (48 + (b : Int)) = 48 + (b : Int) := by rcases (show b = 0 ∨ b = 1 by omega) with rfl | rfl <;> rfl
      have hcv := bit_conv wr c (.int .u8 (48 + (b : Int))) (by rw [← hcn]) _ rfl
      have hB2 := hB.trans (((Below.refl wr.heap.size wr).alloc (Nat.le_refl _) (.cells #[.int .u8 (48 + (b : Int))] 5)).mono hB.size)
      rw [hq]
      have hl : ((j : Int) + 1) < (n : Int) + 1 := by omega
      replace hS := Lib.hid hS
      clear hc
      go_wp2_with fail
      go_roundg (gk - 1)
      case measure => omega
      case rel => exact ⟨j + 1, by rw [hq2]; simp, rfl, by simp, by omega, hB2⟩
    · have hjn : j = n := by omega
      subst hjn
      have hz : key / 2 ^ j = 0 := Nat.div_eq_of_lt hk
      rw [hz]
      have hl : ¬ ((j : Int) + 1) < (j : Int) + 1 := by omega
      go_wp2
      go_ret2
      exact ⟨rfl, hB⟩
theorem bitN_lt : ∀ (l : List UInt8) (a k : Nat), (∀ c ∈ l, c = 48 ∨ c = 49) → a < 2 ^ k → bitN l a < 2 ^ (k + l.length)
  | [], a, k, _, ha => by simpa [bitN] using ha
  | c :: r, a, k, hc, ha => by
    have h1 : c.toNat - 48 < 2 := by rcases hc c (by simp) with rfl | rfl <;> decide
    have h2 : 2 * a + (c.toNat - 48) < 2 ^ (k + 1) := by rw [Nat.pow_succ]; omega
    have := bitN_lt r _ (k + 1) (fun x hx => hc x (by simp [hx])) h2
    rw [bitN, List.length_cons, show k + (r.length + 1) = k + 1 + r.length by omega]
    exact this
set_option maxRecDepth 100000 in
set_option maxHeartbeats 2000000 in
theorem rnumb5_any (l : List UInt8) (hl : l.length ≤ 64) (hd : ∀ c ∈ l, c = 48 ∨ c = 49) (w : World) : Calls Tryz.prog 209 #[.string (strL l)] w fun e w' => e = .returned (.int .u64 ((bitN l 0 : Nat) : Int)) ∧ w = w' := by
  obtain ⟨n, hn⟩ : ∃ n, l.length = n := ⟨_, rfl⟩
  have hsz := strL_size l
  rw [hn] at hsz hl
  go_enter Tryz.func209, Tryz.ntmps209
  go_wp2_with fail
  go_loopg [3, 4] n (fun g nv iv wr => ∃ j : Nat, nv = .int .u64 ((bitN (l.take j) 0 : Nat) : Int) ∧ iv = .int .i64 (j : Nat) ∧ j + g = n ∧ wr = w)
  case atStart => exact ⟨0, rfl, rfl, by omega, rfl⟩
  case round =>
    obtain ⟨j, rfl, rfl, hjg, rfl⟩ := hrel
    by_cases hj : j < n
    · obtain ⟨c, hc⟩ : ∃ c, l.getD j 0 = c := ⟨_, rfl⟩
      have hcm : c = 48 ∨ c = 49 := hd c (by rw [← hc, List.getD_eq_getElem?_getD, List.getElem?_eq_getElem (by omega)]; exact List.getElem_mem _)
      have hg : ∀ h : j < (strL l).size, (strL l)[j] = c := fun h => by rw [strL_get, hc]
      obtain ⟨b, hb, hcb⟩ : ∃ b : Nat, b < 2 ∧ c.toNat = 48 + b := by
        rcases hcm with rfl | rfl
        · exact ⟨0, by decide⟩
        · exact ⟨1, by decide⟩
      have htk : l.take (j + 1) = l.take j ++ [c] := by rw [List.take_succ_eq_append_getElem (by omega), ← hc]; simp [List.getD_eq_getElem?_getD, show j < l.length by omega]
      have hN : bitN (l.take (j + 1)) 0 = 2 * bitN (l.take j) 0 + b := by rw [htk, bitN_snoc, hcb]; omega
      have hlt := bitN_lt (l.take (j + 1)) 0 0 (fun x hx => hd x (List.mem_of_mem_take hx)) (by decide)
      have hlt2 : bitN (l.take (j + 1)) 0 < 18446744073709551616 := Nat.lt_of_lt_of_le hlt (Nat.le_trans (Nat.pow_le_pow_right (by decide) (by simp; omega)) (by decide : 2 ^ 64 ≤ 18446744073709551616))
      obtain ⟨N, hNd⟩ : ∃ N, bitN (l.take j) 0 = N := ⟨_, rfl⟩
      rw [hNd] at hN ⊢
      rw [hN] at hlt2
      have hl1 : (j : Int) < (n : Int) := by omega
      have hw8 : IntKind.u8.wrap (((48 + b : Nat) : Int) - 48) = (b : Int) := by rcases (show b = 0 ∨ b = 1 by omega) with rfl | rfl <;> rfl
      have hw9 : IntKind.u8.wrap (48 + (b : Int) - 48) = (b : Int) := by rw [show 48 + (b : Int) - 48 = (b : Int) by omega]; rcases (show b = 0 ∨ b = 1 by omega) with rfl | rfl <;> rfl
      have hw7 : (48 : Int) + (b : Int) - 48 = (b : Int) := by omega
      replace hN := Lib.hid hN
      clear hc hcm htk hlt
      go_wp2_with fail
      go_roundg (gk - 1)
      case measure => omega
      case rel => exact ⟨j + 1, by rw [hN.out]; simp, by simp, by omega, rfl⟩
    · have hjn : j = n := by omega
      subst hjn
      rw [List.take_of_length_le (by omega)]
      have hl1 : ¬ (j : Int) < (j : Int) := by omega
      go_wp2
      go_ret
      exact ⟨rfl, rfl⟩
end Go.Proofs.YtncfbleeidjflaaGreatDoor
namespace Go.Proofs.YtncfbleeidjflaaGreatDoor
open Go.RowKit Go.Cal
set_option maxRecDepth 100000 in
set_option maxHeartbeats 2000000 in
theorem rpow6_any (n : Nat) (hn : n ≤ 60) (w : World) : Calls Tryz.prog 189 #[.int .i64 (n : Nat)] w fun x w' => x = .returned (.int .u64 ((2 ^ n : Nat) : Int)) ∧ w = w' := by
  go_enter Tryz.func189, Tryz.ntmps189
  go_wp2_with fail
  go_loopg [3, 4] n (fun g xv iv wr => ∃ t : Nat, xv = .int .u64 ((2 ^ t : Nat) : Int) ∧ iv = .int .i64 (t : Nat) ∧ t + g = n ∧ wr = w)
  case atStart => exact ⟨0, by simp, rfl, by omega, rfl⟩
  case round =>
    obtain ⟨t, rfl, rfl, htg, rfl⟩ := hrel
    by_cases ht : t < n
    · obtain ⟨q, hq⟩ : ∃ q, 2 ^ t = q := ⟨_, rfl⟩
      have hq2 : 2 ^ (t + 1) = q + q := by rw [Nat.pow_succ, hq]; omega
      have hqb : q ≤ 1152921504606846976 := by rw [← hq]; exact Nat.le_trans (Nat.pow_le_pow_right (by decide) (show t ≤ 60 by omega)) (by decide)
      rw [hq]
      have hl : (t : Int) < (n : Int) := by omega
      go_wp2_with fail
      go_roundg (gk - 1)
      case measure => omega
      case rel => exact ⟨t + 1, by rw [hq2]; simp, by simp, by omega, rfl⟩
    · have htn : t = n := by omega
      subst htn
      have hl : ¬ (t : Int) < (t : Int) := by omega
      obtain ⟨q, hq⟩ : ∃ q, 2 ^ t = q := ⟨_, rfl⟩
      rw [hq]
      go_wp2
      go_ret
      exact ⟨rfl, rfl⟩
set_option maxRecDepth 100000 in
set_option maxHeartbeats 2000000 in
theorem rsplit6_any (man key : Nat) (hn : man ≤ 60) (hk : key < 18446744073709551616) (w : World) : Calls Tryz.prog 188 #[.int .i64 (man : Nat), .int .u64 (key : Nat)] w fun x w' => x = .returned (.tuple #[.int .u64 ((key / 2 ^ man : Nat) : Int), .int .u64 ((key % 2 ^ man : Nat) : Int)]) ∧ Below w.heap.size w w' := by
  have hp := Lib.hid (rpow6_any man hn w)
  have hpos := Nat.two_pow_pos man
  obtain ⟨x, hx⟩ : ∃ x, 2 ^ man = x := ⟨_, rfl⟩
  rw [hx] at hp hpos ⊢
  have hx0 : ((x : Int) == 0) = false := by simp; omega
  have hx1 : ¬ (x : Int) = 0 := by omega
  have hx2 : ¬ x = 0 := by omega
  clear hx
  have hdl := Nat.div_le_self key x
  have hdv : (key : Int) / (x : Int) = ((key / x : Nat) : Int) := by simp
  have hdm : (key : Int) % (x : Int) = ((key % x : Nat) : Int) := by simp
  have hml : key % x ≤ key := Nat.mod_le _ _
  obtain ⟨y, hy⟩ : ∃ y, key / x = y := ⟨_, rfl⟩
  obtain ⟨z, hz⟩ : ∃ z, key % x = z := ⟨_, rfl⟩
  rw [hy] at hdl hdv ⊢
  rw [hz] at hml hdm ⊢
  go_enter Tryz.func188, Tryz.ntmps188
  go_wp2_with fail
  refine hp.out.mono ?_
  rintro e w1 ⟨rfl, rfl⟩
  go_wp2_with fail
  go_quiet (fail)
  go_wp2
  go_ret2
  exact ⟨by simp [← hz], ⟨rfl, rfl, rfl, Nat.le_refl _, fun _ _ => rfl⟩⟩
end Go.Proofs.YtncfbleeidjflaaGreatDoor
