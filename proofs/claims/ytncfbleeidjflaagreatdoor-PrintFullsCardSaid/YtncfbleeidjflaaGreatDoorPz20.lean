/- Values: the functions of the kinds, a form's shape, walked. Conditions: the tables of the forms, of the kinds' functions, the library's table of noughts. -/
/- Rows over the values: the variables out of the row's condition: the table of the forms, the kinds' functions, the library's table of noughts. Conditions: none. -/
/- Rows over the values: the map of the kinds' functions out of the row's condition. Conditions: none. -/
/- Rows over the values: a start: the door's own heap, and the library's table of bytes. Conditions: none. -/
/- Exact numbers: Right, Dec, size, scaled, walked. Conditions: none. -/
import Derived.Test.YtncfbleeidjflaaGreatDoorPz19
import Derived.Test.YtncfbleeidjflaaGreatDoorPz17
import Derived.Test.YtncfbleeidjflaaGreatDoorPz02
import Derived.Test.YtncfbleeidjflaaGreatDoorPz06
import Derived.Test.YtncfbleeidjflaaGreatDoorPz11
import Derived.LaidHandle
import Derived.LaidMore
import Derived.Maps.Keyed
import Derived.WideKeyElems2
namespace Go.Proofs.YtncfbleeidjflaaGreatDoor
open Go.RowKit Go.Cal
/-- The function of a kind. -/
def numI (k : Int) : Nat := if k = 1 then 255 else if k = 2 then 257 else if k = 3 then 259 else 261
/-- The table of the kinds' functions stands in its variable. -/
def NumW (w : World) : Prop := 2 < w.heap.size ∧ ∃ mv, w.cell? ⟨2, 0, none⟩ = some mv ∧ ∀ wr, Below w.heap.size w wr → (∀ k : Int, 1 ≤ k → k ≤ 4 → (Instr.lookup 222 mv (.int .i64 k) false).run Tryz.prog wr = .ok (.func (.func (numI k)) #[] #[]) wr) ∧ (Instr.lookup 222 mv (.int .i64 0) false).run Tryz.prog wr = .ok .nilFunc wr
theorem NumW.below {w w' : World} (h : NumW w) (hb : Below w.heap.size w w') : NumW w' := by
  obtain ⟨h1, mv, h2, h3⟩ := h
  exact ⟨Nat.lt_of_lt_of_le h1 hb.size, mv, by rw [(bcell hb).1 _ _ h1]; exact h2, fun wr hr => h3 wr (hb.trans (hr.mono hb.size))⟩
/-- The variables that values read. -/
structure VaW (w : World) : Prop where
  frm : TabF w
  num : NumW w
  bru : TabD w
theorem VaW.below {w w' : World} (h : VaW w) (hb : Below w.heap.size w w') : VaW w' := ⟨h.frm.below hb, h.num.below hb, h.bru.below hb⟩
theorem fK_bnd (id : Int) : 1 ≤ fK id ∧ fK id ≤ 4 := by unfold fK; split <;> omega
set_option maxRecDepth 100000 in
set_option maxHeartbeats 1000000 in
theorem vof_yes (id : Int) (h1 : 1 ≤ id) (h2 : id < 15) (w : World) (hW : VaW w) :
    Calls Tryz.prog 136 #[.int .i64 id] w fun e w' => e = .returned (.tuple #[.agg #[.int .i64 (fK id), .int .i64 (fW id), .int .i64 (fM id), .int .i64 (fB id), .int .u64 (fT id), .int .u64 (fI id), .int .u64 (fN id), .func (.func (numI (fK id))) #[] #[]], .int .i64 0]) ∧ Below w.heap.size w w' := by
  have hk := fK_bnd id
  go_enter Tryz.func136, Tryz.ntmps136
  go_wp2_with fail
  refine (fo_of id _ (hW.frm.below ((Below.refl _ _).alloc (Nat.le_refl _) _)) h1 h2).mono ?_
  rintro e w1 ⟨rfl, hb⟩
  have hB : Below w.heap.size w w1 := ((Below.refl _ _).alloc (Nat.le_refl _) _).trans (hb.mono (by simp))
  obtain ⟨hn1, mv, hn2, hn3⟩ := hW.num.below hB
  have hl := (hn3 (w1.alloc (.cells #[.int .i64 (fK id), .int .i64 (fW id), .int .i64 (fM id), .int .i64 (fB id), .int .u64 (fT id), .int .u64 (fI id), .int .u64 (fN id)] 58)) ((Below.refl _ _).alloc (Nat.le_refl _) _)).1 (fK id) hk.1 hk.2
  clear hn3
  have hz := hb.size
  simp at hz
  have hp := pBlk_st _ _ _ _ _ (pBlk_st _ _ _ _ _ (pBlk_made w #[.int .i64 0, .int .i64 0, .int .i64 0, .int .i64 0, .int .u64 0, .int .u64 0, .int .u64 0, .nilFunc] 190) hb) ((Below.refl _ _).alloc (Nat.le_refl _) (.cells #[.int .i64 (fK id), .int .i64 (fW id), .int .i64 (fM id), .int .i64 (fB id), .int .u64 (fT id), .int .u64 (fI id), .int .u64 (fN id)] 58))
  have hi : (Tryz.prog.info? 190).map (·.size) = some 8 := by kernel_rfl
  have hone : (#[.int .i64 (fK id), .int .i64 (fW id), .int .i64 (fM id), .int .i64 (fB id), .int .u64 (fT id), .int .u64 (fI id), .int .u64 (fN id), .func (.func (numI (fK id))) #[] #[]] : Array Value).all (·.oneCell') = true := by simp [Value.oneCell']
  go_wp2_with ((with_reducible show wpList _ _ _ (Oper.mk _ (Op.store 190 _ _) _ _ _ _ :: _) _ _); refine wpList_store_whole _ rfl 190 _ _ rfl w.heap.size #[.int .i64 (fK id), .int .i64 (fW id), .int .i64 (fM id), .int .i64 (fB id), .int .u64 (fT id), .int .u64 (fI id), .int .u64 (fN id), .func (.func (numI (fK id))) #[] #[]] #[.int .i64 0, .int .i64 0, .int .i64 0, .int .i64 0, .int .u64 0, .int .u64 0, .int .u64 0, .nilFunc] 190 rfl rfl hp hi rfl hone ?_; intro w2 hp2 hb2 hz2)
  have hB2 : Below w.heap.size w w2 := (hB.alloc hB.size _).trans hb2
  replace hp2 : pBlk w.heap.size #[.int .i64 (fK id), .int .i64 (fW id), .int .i64 (fM id), .int .i64 (fB id), .int .u64 (fT id), .int .u64 (fI id), .int .u64 (fN id), .func (.func (numI (fK id))) #[] #[]] 190 w2 := hp2
  have r0 := hp2.cell 0 _ rfl
  have r1 := hp2.cell 1 _ rfl
  have r2 := hp2.cell 2 _ rfl
  have r3 := hp2.cell 3 _ rfl
  have r4 := hp2.cell 4 _ rfl
  have r5 := hp2.cell 5 _ rfl
  have r6 := hp2.cell 6 _ rfl
  have r7 := hp2.cell 7 _ rfl
  clear hp2 hl hp
  exact bodyPost_ret (v := .tuple #[.agg #[.int .i64 (fK id), .int .i64 (fW id), .int .i64 (fM id), .int .i64 (fB id), .int .u64 (fT id), .int .u64 (fI id), .int .u64 (fN id), .func (.func (numI (fK id))) #[] #[]], .int .i64 0]) (by simp [results, Tryz.results136, go_sem, r0, r1, r2, r3, r4, r5, r6, r7]) rfl ⟨rfl, hB2⟩
set_option maxRecDepth 100000 in
set_option maxHeartbeats 1000000 in
theorem vof_no (id : Int) (h1 : id < 1 ∨ 15 ≤ id) (w : World) (hW : VaW w) :
    Calls Tryz.prog 136 #[.int .i64 id] w fun e w' => e = .returned (.tuple #[.agg #[.int .i64 0, .int .i64 0, .int .i64 0, .int .i64 0, .int .u64 0, .int .u64 0, .int .u64 0, .nilFunc], .int .i64 3]) ∧ Below w.heap.size w w' := by
  have hfn := Lib.hid (fun w => fo_none id w h1)
  clear h1
  go_enter Tryz.func136, Tryz.ntmps136
  go_wp2_with fail
  refine (hfn.out _).mono ?_
  rintro e w1 ⟨rfl, hb⟩
  have hB : Below w.heap.size w w1 := ((Below.refl _ _).alloc (Nat.le_refl _) _).trans (hb.mono (by simp))
  obtain ⟨hn1, mv, hn2, hn3⟩ := hW.num.below hB
  have hl := (hn3 (w1.alloc (.cells #[.int .i64 0, .int .i64 0, .int .i64 0, .int .i64 0, .int .u64 0, .int .u64 0, .int .u64 0] 58)) ((Below.refl _ _).alloc (Nat.le_refl _) _)).2
  clear hn3
  have hz := hb.size
  simp at hz
  have hp := pBlk_st _ _ _ _ _ (pBlk_st _ _ _ _ _ (pBlk_made w #[.int .i64 0, .int .i64 0, .int .i64 0, .int .i64 0, .int .u64 0, .int .u64 0, .int .u64 0, .nilFunc] 190) hb) ((Below.refl _ _).alloc (Nat.le_refl _) (.cells #[.int .i64 0, .int .i64 0, .int .i64 0, .int .i64 0, .int .u64 0, .int .u64 0, .int .u64 0] 58))
  have hi : (Tryz.prog.info? 190).map (·.size) = some 8 := by kernel_rfl
  have hone : (#[.int .i64 0, .int .i64 0, .int .i64 0, .int .i64 0, .int .u64 0, .int .u64 0, .int .u64 0, .nilFunc] : Array Value).all (·.oneCell') = true := by simp [Value.oneCell']
  go_wp2_with ((with_reducible show wpList _ _ _ (Oper.mk _ (Op.store 190 _ _) _ _ _ _ :: _) _ _); refine wpList_store_whole _ rfl 190 _ _ rfl w.heap.size #[.int .i64 0, .int .i64 0, .int .i64 0, .int .i64 0, .int .u64 0, .int .u64 0, .int .u64 0, .nilFunc] #[.int .i64 0, .int .i64 0, .int .i64 0, .int .i64 0, .int .u64 0, .int .u64 0, .int .u64 0, .nilFunc] 190 rfl rfl hp hi rfl hone ?_; intro w2 hp2 hb2 hz2)
  have hB2 : Below w.heap.size w w2 := (hB.alloc hB.size _).trans hb2
  replace hp2 : pBlk w.heap.size #[.int .i64 0, .int .i64 0, .int .i64 0, .int .i64 0, .int .u64 0, .int .u64 0, .int .u64 0, .nilFunc] 190 w2 := hp2
  have r0 := hp2.cell 0 _ rfl
  have r1 := hp2.cell 1 _ rfl
  have r2 := hp2.cell 2 _ rfl
  have r3 := hp2.cell 3 _ rfl
  have r4 := hp2.cell 4 _ rfl
  have r5 := hp2.cell 5 _ rfl
  have r6 := hp2.cell 6 _ rfl
  have r7 := hp2.cell 7 _ rfl
  clear hp2 hl hp
  exact bodyPost_ret (v := .tuple #[.agg #[.int .i64 0, .int .i64 0, .int .i64 0, .int .i64 0, .int .u64 0, .int .u64 0, .int .u64 0, .nilFunc], .int .i64 3]) (by simp [results, Tryz.results136, go_sem, r0, r1, r2, r3, r4, r5, r6, r7]) rfl ⟨rfl, hB2⟩
theorem shape_size : (Tryz.prog.info? 190).map (·.size) = some 8 := by kernel_rfl
theorem cells8 {w : World} {g : Nat} {a b c d e f h i : Value} {t : TypeId} (hp : w.heap[g]? = some (.cells #[a, b, c, d, e, f, h, i] t (0, 0))) :
    w.cell? ⟨g, 0, none⟩ = some a ∧ w.cell? ⟨g, 1, none⟩ = some b ∧ w.cell? ⟨g, 2, none⟩ = some c ∧ w.cell? ⟨g, 3, none⟩ = some d ∧ w.cell? ⟨g, 4, none⟩ = some e ∧ w.cell? ⟨g, 5, none⟩ = some f ∧ w.cell? ⟨g, 6, none⟩ = some h ∧ w.cell? ⟨g, 7, none⟩ = some i := by
  have hp : pBlk g #[a, b, c, d, e, f, h, i] t w := hp
  exact ⟨hp.cell 0 _ rfl, hp.cell 1 _ rfl, hp.cell 2 _ rfl, hp.cell 3 _ rfl, hp.cell 4 _ rfl, hp.cell 5 _ rfl, hp.cell 6 _ rfl, hp.cell 7 _ rfl⟩
/-- What Most tells. -/
def mostR (id : Int) (neg : Bool) : Int := if mostE id neg = 0 then mostV id neg else 0
theorem most_cases (id : Int) (neg : Bool) : ((id < 1 ∨ 15 ≤ id) ∧ mostE id neg = 3 ∧ mostR id neg = 0) ∨ (1 ≤ id ∧ id < 15 ∧
    ((neg = false ∧ mostE id neg = 0 ∧ mostR id neg = fT id) ∨ (neg = true ∧ (fK id == 4) = true ∧ mostE id neg = 5 ∧ mostR id neg = 0) ∨
     (neg = true ∧ (fK id == 4) = false ∧ (fK id == 3) = true ∧ 0 ≤ fT id ∧ fT id ≤ 127 ∧ mostE id neg = 0 ∧ mostR id neg = fT id + 1) ∨ (neg = true ∧ (fK id == 4) = false ∧ (fK id == 3) = false ∧ mostE id neg = 0 ∧ mostR id neg = fT id))) := by
  by_cases hid : id < 1 ∨ 15 ≤ id
  · left
    have hE : mostE id neg = 3 := by unfold mostE; rw [if_pos hid]
    exact ⟨hid, hE, by unfold mostR; rw [hE]; rfl⟩
  · right
    have h1 : 1 ≤ id := by omega
    have h2 : id < 15 := by omega
    refine ⟨h1, h2, ?_⟩
    rcases id_cases h1 h2 with rfl | rfl | rfl | rfl | rfl | rfl | rfl | rfl | rfl | rfl | rfl | rfl | rfl | rfl <;> cases neg <;> decide +kernel
set_option maxRecDepth 100000 in
set_option maxHeartbeats 1000000 in
theorem vmost_any (id : Int) (neg : Bool) (w : World) (hW : VaW w) :
    Calls Tryz.prog 145 #[.int .i64 id, .bool neg] w fun e w' => e = .returned (.tuple #[.int .u64 (mostR id neg), .int .i64 (mostE id neg)]) ∧ Below w.heap.size w w' := by
  rcases most_cases id neg with ⟨hid, hE, hR⟩ | ⟨h1, h2, ⟨rfl, hE, hR⟩ | ⟨rfl, h4, hE, hR⟩ | ⟨rfl, h4, h3, hT, hT', hE, hR⟩ | ⟨rfl, h4, h3, hE, hR⟩⟩
  · rw [hE, hR]
    have hfn := Lib.hid (fun w hW => vof_no id hid w hW)
    clear hid hE hR
    go_enter Tryz.func145, Tryz.ntmps145
    go_wp2_with fail
    refine (hfn.out _ hW).mono ?_
    rintro e w1 ⟨rfl, hb⟩
    go_wp2_with ((with_reducible show wpList _ _ _ (Oper.mk _ (Op.store 190 _ _) _ _ _ _ :: _) _ _); refine wpList_store_whole _ rfl 190 _ _ rfl (w1).heap.size #[.int .i64 0, .int .i64 0, .int .i64 0, .int .i64 0, .int .u64 0, .int .u64 0, .int .u64 0, .nilFunc] #[.int .i64 0, .int .i64 0, .int .i64 0, .int .i64 0, .int .u64 0, .int .u64 0, .int .u64 0, .nilFunc] 190 rfl rfl (pBlk_made w1 #[.int .i64 0, .int .i64 0, .int .i64 0, .int .i64 0, .int .u64 0, .int .u64 0, .int .u64 0, .nilFunc] 190) shape_size rfl (by simp [Value.oneCell']) ?_; intro w2 hp2 hb2 hz2; obtain ⟨r0, r1, r2, r3, r4, r5, r6, r7⟩ := cells8 hp2)
    go_ret2
    exact ⟨rfl, (hb.alloc hb.size _).trans (hb2.mono hb.size)⟩
  all_goals
    rw [hE, hR]
    have hfn := Lib.hid (fun w hW => vof_yes id h1 h2 w hW)
    have hk := fK_bnd id
    clear hE hR
    go_enter Tryz.func145, Tryz.ntmps145
    go_wp2_with fail
    refine (hfn.out _ hW).mono ?_
    rintro e w1 ⟨rfl, hb⟩
    go_wp2_with ((with_reducible show wpList _ _ _ (Oper.mk _ (Op.store 190 _ _) _ _ _ _ :: _) _ _); refine wpList_store_whole _ rfl 190 _ _ rfl (w1).heap.size #[.int .i64 (fK id), .int .i64 (fW id), .int .i64 (fM id), .int .i64 (fB id), .int .u64 (fT id), .int .u64 (fI id), .int .u64 (fN id), .func (.func (numI (fK id))) #[] #[]] #[.int .i64 0, .int .i64 0, .int .i64 0, .int .i64 0, .int .u64 0, .int .u64 0, .int .u64 0, .nilFunc] 190 rfl rfl (pBlk_made w1 #[.int .i64 0, .int .i64 0, .int .i64 0, .int .i64 0, .int .u64 0, .int .u64 0, .int .u64 0, .nilFunc] 190) shape_size rfl (by simp [Value.oneCell']) ?_; intro w2 hp2 hb2 hz2; obtain ⟨r0, r1, r2, r3, r4, r5, r6, r7⟩ := cells8 hp2)
    go_ret2
    exact ⟨rfl, (hb.alloc hb.size _).trans (hb2.mono hb.size)⟩
end Go.Proofs.YtncfbleeidjflaaGreatDoor
namespace Go.Proofs.YtncfbleeidjflaaGreatDoor
open Go.ChangeShapes Go.WideShapes Go.ChangeAt Go.RowKit Go.Cal
theorem plain_of_laid {W : World} {l : List (String × DataW Unit)} (h : laidMetH Tryz.prog l W) (hp : ((l.filter fun x => x.2.handleName?.isNone).all fun x => x.2.handleName?.isNone) = true) : laidMet Tryz.prog (l.filter fun x => x.2.handleName?.isNone) W := by
  have h1 := h.filter (fun x => x.2.handleName?.isNone)
  rwa [MakeChecks.laidMetH_plain _ _ _ hp] at h1
theorem gFormsX : Tryz.prog.globalNamed "caliper/forms.forms" = some 1 := by kernel_rfl
theorem tFormsX : (Tryz.prog.globals[1]?).map (·.type) = some 128 := by kernel_rfl
theorem plainFormsX : plainT Tryz.prog 3 128 = true := by kernel_rfl
theorem tabF_of_laid {W : World} {laid : List (String × DataW Unit)} (h : laidMet Tryz.prog laid W) (hm : ("caliper/forms.forms", Rows.laid_caliper_forms_forms) ∈ laid) : TabF W := by
  obtain ⟨ps, hl, _⟩ := h
  obtain ⟨g0, t0, cs0, f0, p0, hg0, ht0, hv0, hd0⟩ := laidVars_mem hl hm
  obtain rfl := Option.some.inj (gFormsX.symm.trans hg0)
  obtain rfl := Option.some.inj (tFormsX.symm.trans ht0)
  have hcs := cells_flat 3 _ _ _ _ _ plainFormsX hd0
  have hc : ∀ i v, cs0[i]? = some v → W.cell? ⟨1, i, none⟩ = some v := fun i v hi => by rw [World.var?_cell hg0 hv0 i]; exact hi
  have hc' : ∀ (i : Nat) v, (flat 3 (Rows.laid_caliper_forms_forms (H := Unit)))[i]? = some v → W.cell? ⟨1, i, none⟩ = some v := fun i v hi => hc i v (by rw [← Array.getElem?_toList, hcs]; exact hi)
  refine ⟨World.block_lt_of_cell? W ⟨1, 0, none⟩ (hc' 0 _ rfl), fun id h1 h2 => ?_⟩
  rcases id_cases h1 h2 with rfl | rfl | rfl | rfl | rfl | rfl | rfl | rfl | rfl | rfl | rfl | rfl | rfl | rfl <;>
    exact ⟨hc' _ _ rfl, hc' _ _ rfl, hc' _ _ rfl, hc' _ _ rfl, hc' _ _ rfl, hc' _ _ rfl, hc' _ _ rfl⟩
theorem tabD_of_laid {W : World} {laid : List (String × DataW Unit)} (h : laidMet Tryz.prog laid W) (hm : ("math/bits.deBruijn64tab", Rows.laid_math_bits_deBruijn64tab) ∈ laid) : TabD W := by
  obtain ⟨ps, hl, _⟩ := h
  obtain ⟨g, t, cs, fuel, p, h1, h2, h3, h4⟩ := laidVars_mem hl hm
  obtain rfl := Option.some.inj ((show Tryz.prog.globalNamed "math/bits.deBruijn64tab" = some 12 by kernel_rfl).symm.trans h1)
  obtain rfl := Option.some.inj ((show (Tryz.prog.globals[12]?).map (·.type) = some 274 by kernel_rfl).symm.trans h2)
  have h5 := Lib.cells_of_tab (k := .u8) (zs := Lib.deBruijn64tab.map fun (n : Nat) => (n : Int)) Tryz.underlying274 Tryz.underlying5 (by kernel_rfl) (by kernel_rfl) h4
  have hc : ∀ j, j < 64 → W.cell? ⟨12, j, none⟩ = some (.int .u8 (Lib.deBruijn64tab.getD j 0 : Nat)) := fun j hj => by
    rw [World.var?_cell h1 h3 j, ← Array.getElem?_toList, h5]
    rw [List.getElem?_map, List.getElem?_map, List.getD_eq_getElem?_getD, List.getElem?_eq_getElem (show j < Lib.deBruijn64tab.length from hj)]
    rfl
  exact ⟨World.block_lt_of_cell? W ⟨12, 0, none⟩ (hc 0 (by decide)), fun j hj => hc j hj⟩
end Go.Proofs.YtncfbleeidjflaaGreatDoor
namespace Go.Proofs.YtncfbleeidjflaaGreatDoor
open Go.ChangeShapes Go.WideShapes Go.ChangeAt Go.RowKit Go.Cal Go.Maps
def fnBytes (b : UInt8) : List UInt8 := [99, 97, 108, 105, 112, 101, 114, 47, 118, 97, 108, 117, 101, 46, 110, 117, 109, 98, 101, 114, 115, 36, b]
theorem law_int : Keyed Tryz.prog 3 := int_keyed Tryz.underlying3
theorem zero_func (w : World) : (zeroValue 188).run Tryz.prog w = .ok .nilFunc w := by kernel_rfl
theorem cells_func {v : Value} (h : v.formed Tryz.prog 188 = true) : v.cells.toList = [v] := by
  cases v with
  | agg cs => simp [Value.formed, Tryz.underlying188] at h
  | _ => rfl
theorem num_one {W wr : World} {b n : Nat} {es : Array MapEntry} {clock : Nat} (hb : wr.heap[b]? = some (.map es clock)) (F : Go.WideElems.Fit Tryz.prog 3 (Go.WideElems.elemAt (funcToken Tryz.prog) Tryz.prog W 0 (fun _ => true) true n 188) es clock) (k : Int) (by1 : UInt8) (f0 : FuncId) (hwf : (Lit.int .i64 k).wf = true)
    (hD : ∀ zd : DataW (List UInt8), (DataW.map ((es.toList.map (Go.WideElems.rg Tryz.prog 3 (Go.WideElems.elemAt (funcToken Tryz.prog) Tryz.prog W 0 (fun _ => true) true n 188))).foldr DataW.insert [])).atKey (.int .i64 k) zd = .held (fnBytes by1))
    (hone : ((List.range Tryz.prog.funcs.size).filter fun f => (Tryz.prog.funcs[f]?).any (·.name.toUTF8.data.toList == fnBytes by1)) = [f0]) :
    (Instr.lookup 222 (.map (some b)) (.int .i64 k) false).run Tryz.prog wr = .ok (.func (.func f0) #[] #[]) wr := by
  have hkey : keyOf Tryz.prog 3 (.int .i64 k) = some (.int .i64 k) := keyOf_int_mk Tryz.underlying3 hwf
  rcases fit_look false law_int Tryz.underlying222 (zero_func wr) hb F hkey with ⟨_, _, hz⟩ | ⟨e0, y, _, _, hrun, hR, hy, _⟩
  · have := (hz .nil).symm.trans (hD .nil)
    cases this
  · have h1 : y.1 = .held (fnBytes by1) := (hy .nil).symm.trans (hD .nil)
    unfold Go.WideElems.elemAt at hR
    split at hR
    · rename_i hf
      rw [cells_func hf] at hR
      obtain ⟨d, q⟩ := y
      subst h1
      have := func_of_trod (f0 := f0) Tryz.underlying188 hone hR
      rw [hrun]
      simp [this]
    · cases hR
theorem num_none {W wr : World} {b n : Nat} {es : Array MapEntry} {clock : Nat} (hb : wr.heap[b]? = some (.map es clock)) (F : Go.WideElems.Fit Tryz.prog 3 (Go.WideElems.elemAt (funcToken Tryz.prog) Tryz.prog W 0 (fun _ => true) true n 188) es clock)
    (hD : ∀ zd : DataW (List UInt8), (DataW.map ((es.toList.map (Go.WideElems.rg Tryz.prog 3 (Go.WideElems.elemAt (funcToken Tryz.prog) Tryz.prog W 0 (fun _ => true) true n 188))).foldr DataW.insert [])).atKey (.int .i64 0) zd = zd) :
    (Instr.lookup 222 (.map (some b)) (.int .i64 0) false).run Tryz.prog wr = .ok .nilFunc wr := by
  have hkey : keyOf Tryz.prog 3 (.int .i64 0) = some (.int .i64 0) := keyOf_int_mk Tryz.underlying3 (by decide)
  rcases fit_look false law_int Tryz.underlying222 (zero_func wr) hb F hkey with ⟨hrun, _, hz⟩ | ⟨e0, y, _, _, hrun, hR, hy, _⟩
  · rw [hrun]; rfl
  · have h1 := (hy .nil).symm.trans (hD .nil)
    have h2 := (hy (.agg [])).symm.trans (hD (.agg []))
    rw [h1] at h2
    cases h2
theorem numW_of_laid {W : World} {laid : List (String × DataW Unit)} (h : laidMetH Tryz.prog laid W) (hm : ("caliper/value.numbers", Rows.laid_caliper_value_numbers) ∈ laid) : NumW W := by
  obtain ⟨g, t, cs, fuel, p, hg, ht, hv, hd⟩ := h.funcs hm
  obtain rfl := Option.some.inj ((show Tryz.prog.globalNamed "caliper/value.numbers" = some 2 by kernel_rfl).symm.trans hg)
  obtain rfl := Option.some.inj ((show (Tryz.prog.globals[2]?).map (·.type) = some 222 by kernel_rfl).symm.trans ht)
  have hd' : DataW.trod (funcToken Tryz.prog) Tryz.prog W 0 (fun _ => true) true fuel 222 cs.toList = some (.map [(.int .i64 1, .held (fnBytes 49)), (.int .i64 2, .held (fnBytes 50)), (.int .i64 3, .held (fnBytes 51)), (.int .i64 4, .held (fnBytes 52))], p) := hd
  rcases Go.WideElems.open_map Tryz.underlying222 hd' with ⟨_, hx⟩ | ⟨b, es, clock, n, _, hcs, hb, _, F, hx⟩
  · cases hx
  · simp only [Prod.mk.injEq] at hx
    obtain ⟨hD, _⟩ := hx
    have hc : W.cell? ⟨2, 0, none⟩ = some (.map (some b)) := by
      have := World.var?_cell hg hv 0
      rw [Array.eq_one_of_toList hcs] at this
      simpa using this
    have hbl : b < W.heap.size := (Array.getElem?_eq_some_iff.1 hb).1
    refine ⟨World.block_lt_of_cell? W ⟨2, 0, none⟩ hc, _, hc, fun wr hr => ?_⟩
    have hbr : wr.heap[b]? = some (.map es clock) := by rw [hr.block b hbl]; exact hb
    refine ⟨fun k k1 k4 => ?_, num_none hbr F fun zd => by rw [← hD]; rfl⟩
    have hk : k = 1 ∨ k = 2 ∨ k = 3 ∨ k = 4 := by omega
    rcases hk with rfl | rfl | rfl | rfl
    · exact num_one hbr F 1 49 255 (by decide) (fun zd => by rw [← hD]; rfl) (by kernel_rfl)
    · exact num_one hbr F 2 50 257 (by decide) (fun zd => by rw [← hD]; rfl) (by kernel_rfl)
    · exact num_one hbr F 3 51 259 (by decide) (fun zd => by rw [← hD]; rfl) (by kernel_rfl)
    · exact num_one hbr F 4 52 261 (by decide) (fun zd => by rw [← hD]; rfl) (by kernel_rfl)
theorem vaW_of_laid {W : World} {laid : List (String × DataW Unit)} (h : laidMetH Tryz.prog laid W) (hp : ((laid.filter fun x => x.2.handleName?.isNone).all fun x => x.2.handleName?.isNone) = true)
    (h1 : ("caliper/forms.forms", Rows.laid_caliper_forms_forms) ∈ laid.filter fun x => x.2.handleName?.isNone) (h2 : ("caliper/value.numbers", Rows.laid_caliper_value_numbers) ∈ laid) (h3 : ("math/bits.deBruijn64tab", Rows.laid_math_bits_deBruijn64tab) ∈ laid.filter fun x => x.2.handleName?.isNone) : VaW W :=
  ⟨tabF_of_laid (plain_of_laid h hp) h1, numW_of_laid h h2, tabD_of_laid (plain_of_laid h hp) h3⟩
end Go.Proofs.YtncfbleeidjflaaGreatDoor
namespace Go.Proofs.YtncfbleeidjflaaGreatDoor
open Go.ChangeShapes Go.WideShapes Go.ChangeAt Go.RowKit Go.Cal
noncomputable def startW (os : Os) : World :=
  { World.doorLaid Tryz.prog 600 os with heap := (World.doorLaid Tryz.prog 600 os).heap.setIfInBounds 7 ((World.laidAll Tryz.prog os [("unicode/utf8.first", Rows.laid_unicode_utf8_first)]).heap.getD 7 (.cells #[] 0 (0, 0))) }
end Go.Proofs.YtncfbleeidjflaaGreatDoor
namespace Go.Proofs.YtncfbleeidjflaaGreatDoor
open Go.RowKit Go.Cal
theorem xin_yes (n : Int) (h1 : -5000 ≤ n) (h2 : n ≤ 5000) (w : World) : Calls Tryz.prog 166 #[.int .i64 n] w fun e w' => e = .returned (.bool true) ∧ w = w' := by
  go_enter Tryz.func166, Tryz.ntmps166
  go_wp2
  go_ret
  exact ⟨rfl, rfl⟩
set_option maxRecDepth 100000 in
set_option maxHeartbeats 1000000 in
theorem xright_yes {w : World} {v : Value} {N : Nat} (neg : Bool) (t f : Int) (h : IsT w v 128 N) (ht : -5000 ≤ t ∧ t ≤ 5000) (hf : -5000 ≤ f ∧ f ≤ 5000) :
    Calls Tryz.prog 91 #[.agg #[.bool neg, v, .int .i64 t, .int .i64 f]] w fun e w' => e = .returned (.bool true) ∧ Below w.heap.size w w' := by
  obtain ⟨A, c, zs, rfl, rd, hc, hcm, hl, nr⟩ := h
  have hb0 := (Below.refl w.heap.size w).alloc (Nat.le_refl _) (.cells #[.bool neg, .slice A zs.length c, .int .i64 t, .int .i64 f] 71)
  obtain ⟨ht1, ht2⟩ := ht
  obtain ⟨hf1, hf2⟩ := hf
  by_cases h0 : zs = []
  · subst h0
    go_enter Tryz.func91, Tryz.ntmps91
    go_wp2_with fail
    refine (xin_yes t ht1 ht2 _).mono ?_
    rintro e w1 ⟨rfl, rfl⟩
    go_wp2_with fail
    refine (xin_yes f hf1 hf2 _).mono ?_
    rintro e w1 ⟨rfl, rfl⟩
    go_wp2
    go_ret
    exact ⟨rfl, hb0⟩
  · have hpos := List.length_pos_iff.2 h0
    obtain ⟨b, off, rfl, hbB, hcell⟩ := rd.at (i := 0) hpos
    obtain ⟨n, hn⟩ : ∃ n, zs.length = n := ⟨_, rfl⟩
    have hlast := nr.top h0
    have hx := hcell (n - 1) (by omega)
    have hxv : zs.getD (n - 1) 0 = zs.getLast h0 := by
      rw [List.getLast_eq_getElem, List.getD_eq_getElem?_getD, List.getElem?_eq_getElem (by omega)]
      simp [hn]
    rw [hxv] at hx
    obtain ⟨x, hxx⟩ : ∃ x, zs.getLast h0 = x := ⟨_, rfl⟩
    rw [hxx] at hx hlast
    rw [hn] at hc hl hb0 ⊢
    have hx' : (w.alloc (.cells #[.bool neg, .slice (some ⟨b, off, none⟩) n c, .int .i64 t, .int .i64 f] 71)).cell? ⟨b, off + (n - 1), none⟩ = some (.int .u64 (x : Nat)) := by
      rw [World.cell?_alloc_lt _ _ _ hbB]; exact hx
    have hn0 : 0 < n := by omega
    have hxn : ((x : Int) == 0) = false := by simpa using hlast
    have hxm : ((x : Int) != 0) = true := by simpa using hlast
    clear hxv hxx hcell rd nr hlast hn hpos
    go_enter Tryz.func91, Tryz.ntmps91
    go_wp2_with fail
    refine (xin_yes t ht1 ht2 _).mono ?_
    rintro e w1 ⟨rfl, rfl⟩
    go_wp2_with fail
    refine (xin_yes f hf1 hf2 _).mono ?_
    rintro e w1 ⟨rfl, rfl⟩
    go_wp2
    go_ret
    exact ⟨rfl, hb0⟩
theorem pBlk.setX {g : Nat} {cs : Array Value} {t : TypeId} {w : World} (h : pBlk g cs t w) (i : Nat) (u : Value) : pBlk g (cs.setIfInBounds i u) t (w.setCell ⟨g, i, none⟩ u) := Lib.heap_setCell_same (i := i) h u
theorem IsT.apartX {w : World} {v u : Value} {k N g i : Nat} {cs : Array Value} {t : TypeId} (h : IsT w v k N) (hp : pBlk g cs t w) (hy : ∀ x ∈ cs.toList, ∀ n, x ≠ .int .u64 n) : IsT (w.setCell ⟨g, i, none⟩ u) v k N := by
  obtain ⟨A, c, zs, h1, h2, h3⟩ := h
  refine ⟨A, c, zs, h1, ⟨?_, fun b off e j hj => ?_⟩, h3⟩
  · rw [size_setCell]; exact h2.place
  · have hc := h2.cells b off e j hj
    by_cases hb : b = g
    · subst hb
      exfalso
      rw [cell_of_row w b _ _ _ _ hp] at hc
      have hm : Value.int .u64 ((zs.getD j 0 : Nat) : Int) ∈ cs.toList := by
        have := Array.mem_of_getElem? hc
        simpa using this
      exact hy _ hm _ rfl
    · rw [World.cell?_setCell_other _ _ _ _ (fun e => hb (by injection e with e; exact e.symm))]
      exact hc
theorem isT_fitX {w : World} {v : Value} {k N : Nat} (h : IsT w v k N) (hN : N < 18446744073709551616 ^ 128) : IsT w v 128 N := by
  obtain ⟨A, c, zs, h1, h2, h3, h4, h5, h6⟩ := h
  exact ⟨A, c, zs, h1, h2, h3, h4, h6.length_le hN, h6⟩
theorem bits_b {w : World} {v : Value} {k N : Nat} (h : IsT w v k N) (hk : k ≤ 1048576 := by decide) :
    Calls Tryz.prog 45 #[v] w fun e w' => e = .returned (.int .i64 (blen N : Nat)) ∧ Below w.heap.size w w' := by
  obtain ⟨A1, c1, z1, rfl, r1, hc1, hl1, d1, nr⟩ := h
  refine (bits_any c1 w r1 hc1 (by omega) nr.dig).mono ?_
  rintro e w' ⟨he, rfl⟩
  rw [nr.val] at he
  exact ⟨he, Below.refl _ _⟩
set_option maxRecDepth 100000 in
set_option maxHeartbeats 1000000 in
theorem xdec_yes {w : World} {d : Value} {m N : Nat} (neg : Bool) (k : Int) (h : IsN w d m N) (hm : m ≤ 1048576) (hN : N < 18446744073709551616 ^ 128) (hk : -5000 ≤ k ∧ k ≤ 5000) :
    Calls Tryz.prog 97 #[.bool neg, d, .int .i64 k] w fun e w' => ∃ v, e = .returned (.tuple #[.agg #[.bool neg, v, .int .i64 k, .int .i64 k], .bool true]) ∧ IsT w' v 128 N ∧ Below w.heap.size w w' := by
  have hnm := Lib.hid (norm_t (h.below ((Below.refl _ _).alloc (Nat.le_refl _) (.cells #[.bool false, .slice none 0 0, .int .i64 0, .int .i64 0] 71))) hm)
  obtain ⟨A0, c0, z0, rfl, -⟩ := id h
  replace hN := Lib.hid hN
  clear h
  go_enter Tryz.func97, Tryz.ntmps97
  go_wp2_with fail
  refine hnm.out.mono ?_
  rintro e w1 ⟨v, rfl, hv, hb⟩
  obtain ⟨A, c, zs, rfl, -⟩ := id hv
  obtain ⟨n, hn⟩ : ∃ n, zs.length = n := ⟨_, rfl⟩
  rw [hn] at hv ⊢
  clear hn hnm
  have hv128 : IsT w1 (.slice A n c) 128 N := isT_fitX hv hN.out
  have hp := pBlk_st _ _ _ _ _ (pBlk_st _ _ _ _ _ (pBlk_made w #[.bool false, .slice none 0 0, .int .i64 0, .int .i64 0] 71) hb) ((Below.refl _ _).alloc (Nat.le_refl _) (.cells #[.bool neg, .slice A n c, .int .i64 k, .int .i64 k] 71))
  have hB : Below w.heap.size w w1 := ((Below.refl _ _).alloc (Nat.le_refl _) _).trans (hb.mono (by simp))
  have hz := hb.size
  simp at hz
  have hrt := Lib.hid (xright_yes neg k k (hv128.below ((Below.refl _ _).alloc (Nat.le_refl _) (.cells #[.bool neg, .slice A n c, .int .i64 k, .int .i64 k] 71))) hk hk)
  go_wp2_with fail
  refine hrt.out.mono ?_
  rintro e w2 ⟨rfl, hb2⟩
  have hp2 := pBlk_st _ _ _ _ _ hp hb2
  have hq2 := pBlk_st _ _ _ _ _ (pBlk_made w1 #[.bool neg, .slice A n c, .int .i64 k, .int .i64 k] 71) hb2
  have hv2 := (hv128.below ((Below.refl _ _).alloc (Nat.le_refl _) (.cells #[.bool neg, .slice A n c, .int .i64 k, .int .i64 k] 71))).below hb2
  have r0 := hp2.cell 0 _ rfl
  have s0 := hp2.free 0
  have q0 := hq2.cell 0 _ rfl
  have r1 := hp2.cell 1 _ rfl
  have s1 := hp2.free 1
  have q1 := hq2.cell 1 _ rfl
  have r2 := hp2.cell 2 _ rfl
  have s2 := hp2.free 2
  have q2 := hq2.cell 2 _ rfl
  have r3 := hp2.cell 3 _ rfl
  have s3 := hp2.free 3
  have q3 := hq2.cell 3 _ rfl
  have hB2 : Below w.heap.size w w2 := (hB.alloc hB.size _).trans (hb2.mono (by simp; omega))
  have hno : ∀ (a b c d : Value), (∀ n, a ≠ .int .u64 n) → (∀ n, b ≠ .int .u64 n) → (∀ n, c ≠ .int .u64 n) → (∀ n, d ≠ .int .u64 n) → ∀ x ∈ (#[a, b, c, d] : Array Value).toList, ∀ n, x ≠ .int .u64 n := by
    intro a b c d ha hb hc hd x hx
    simp at hx
    rcases hx with rfl | rfl | rfl | rfl <;> assumption
  have hvf := IsT.apartX (i := 3) (u := .int .i64 k) (IsT.apartX (i := 2) (u := .int .i64 k) (IsT.apartX (i := 1) (u := .slice A n c) (IsT.apartX (i := 0) (u := .bool neg) hv2 hp2 (hno _ _ _ _ (by simp) (by simp) (by simp) (by simp))) (hp2.setX 0 (.bool neg)) (hno _ _ _ _ (by simp) (by simp) (by simp) (by simp))) ((hp2.setX 0 (.bool neg)).setX 1 (.slice A n c)) (hno _ _ _ _ (by simp) (by simp) (by simp) (by simp))) (((hp2.setX 0 (.bool neg)).setX 1 (.slice A n c)).setX 2 (.int .i64 k)) (hno _ _ _ _ (by simp) (by simp) (by simp) (by simp))
  have hpf := (((hp2.setX 0 (.bool neg)).setX 1 (.slice A n c)).setX 2 (.int .i64 k)).setX 3 (.int .i64 k)
  have y0 := hpf.cell 0 _ rfl
  have y1 := hpf.cell 1 _ rfl
  have y2 := hpf.cell 2 _ rfl
  have y3 := hpf.cell 3 _ rfl
  clear hp hrt hp2 hq2 hv hv128 hno hv2 hpf
  go_wp2
  refine bodyPost_ret (v := .tuple #[.agg #[.bool neg, .slice A n c, .int .i64 k, .int .i64 k], .bool true]) (by simp [results, Tryz.results97, go_sem, y0, y1, y2, y3]) rfl ⟨_, rfl, hvf, ?_⟩
  exact (((hB2.setCell (p := ⟨w.heap.size, 0, none⟩) (Nat.le_refl _) _).setCell (p := ⟨w.heap.size, 1, none⟩) (Nat.le_refl _) _).setCell (p := ⟨w.heap.size, 2, none⟩) (Nat.le_refl _) _).setCell (p := ⟨w.heap.size, 3, none⟩) (Nat.le_refl _) _
/-- Where a size is within a word: no wrap. -/
theorem wrap64_idG {x : Int} (h1 : -9223372036854775808 ≤ x) (h2 : x ≤ 9223372036854775807) : wrap64 x = x := by
  unfold wrap64
  omega
theorem blen_bl (N : Nat) : blen N = bl N := rfl
theorem size_pure (N : Nat) (t f : Int) (hN : N < 18446744073709551616 ^ 128) (ht : -5000 ≤ t ∧ t ≤ 5000) (hf : -5000 ≤ f ∧ f ≤ 5000) : wrap64 (wrap64 ((blen N : Int) + t) + (f * 2321928095).tdiv 1000000000) = exS (blen N) t f := by
  have e : (18446744073709551616 : Nat) ^ 128 = 2 ^ 8192 := by decide +kernel
  have hb : blen N ≤ 8192 := by rw [blen_bl]; exact bl_iff.2 (e ▸ hN)
  have hl := lg_tdiv f
  have h1 : lg5 f.toNat ≤ 12000 := by unfold lg5; omega
  have h2 : lg5 (-f).toNat ≤ 12000 := by unfold lg5; omega
  unfold exS
  generalize (f * 2321928095).tdiv 1000000000 = q at hl ⊢
  rw [wrap64_idG (x := (blen N : Int) + t) (by omega) (by omega), wrap64_idG (by omega) (by omega)]
set_option maxRecDepth 100000 in
set_option maxHeartbeats 1000000 in
theorem xsize_any {w : World} {v : Value} {N : Nat} (neg : Bool) (t f : Int) (h : IsT w v 128 N) (ht : -5000 ≤ t ∧ t ≤ 5000) (hf : -5000 ≤ f ∧ f ≤ 5000) :
    Calls Tryz.prog 147 #[.agg #[.bool neg, v, .int .i64 t, .int .i64 f]] w fun e w' => e = .returned (.int .i64 (exS (blen N) t f)) ∧ Below w.heap.size w w' := by
  obtain ⟨A0, c0, z0, rfl, -⟩ := id h
  obtain ⟨n, hn⟩ : ∃ n, z0.length = n := ⟨_, rfl⟩
  rw [hn] at h ⊢
  clear hn
  have hsz := Lib.hid (size_pure N t f h.isN.lt ht hf)
  obtain ⟨hf1, hf2⟩ := hf
  have c0' := fun (u : Later (w.heap.size + 1) (w.alloc (.cells #[.bool neg, .slice A0 n c0, .int .i64 t, .int .i64 f] 71))) => u.cell w.heap.size 1 (.slice A0 n c0) (by omega) (by simp)
  have c1' := fun (u : Later (w.heap.size + 1) (w.alloc (.cells #[.bool neg, .slice A0 n c0, .int .i64 t, .int .i64 f] 71))) => u.cell w.heap.size 2 (.int .i64 t) (by omega) (by simp)
  have c2' := fun (u : Later (w.heap.size + 1) (w.alloc (.cells #[.bool neg, .slice A0 n c0, .int .i64 t, .int .i64 f] 71))) => u.cell w.heap.size 3 (.int .i64 f) (by omega) (by simp)
  have hbt := Lib.hid fun (u : Later (w.heap.size + 1) (w.alloc (.cells #[.bool neg, .slice A0 n c0, .int .i64 t, .int .i64 f] 71))) => bits_b (h.below (((Below.refl _ _).alloc (Nat.le_refl _) _).trans (u.prop.mono (by omega))))
  go_enter Tryz.func147, Tryz.ntmps147
  go_wp2_with fail
  refine wp_region_later (B := w.heap.size + 1) (by kernel_rfl) (by kernel_rfl) (Below.refl _ _) ?_
  repeat (go_big_quiet_step ((go_at_call 45; exact Calls.later_of (by simp) (hbt.out _))))
  refine wpQuiet_nil ?_
  intro w2 hb2
  go_wp2
  rw [hsz.out]
  go_ret
  exact ⟨rfl, ((Below.refl _ _).alloc (Nat.le_refl _) _).trans (hb2.mono (by omega))⟩
/-- The powers of five in at most two steps. -/
theorem five_steps (f : Int) (h : f ≤ 10000) : (f ≤ 0 ∧ f.toNat = 0) ∨ (0 < f ∧ f ≤ 5000 ∧ (min (max f 0) 10000).toNat = f.toNat) ∨ (5000 < f ∧ f - 5000 ≤ 5000 ∧ f.toNat = 5000 + (f - 5000).toNat ∧ (min (max (f - 5000) 0) 10000).toNat = (f - 5000).toNat) := by omega
theorem shl_bnd (k X s m : Nat) (hX : X < 18446744073709551616 ^ k) (hs : s ≤ 64 * m) : X * 2 ^ s < 18446744073709551616 ^ (k + m) := by
  have h1 : X * 2 ^ s < 18446744073709551616 ^ k * 2 ^ s := Nat.mul_lt_mul_of_pos_right hX (Nat.two_pow_pos _)
  have h2 : 2 ^ s ≤ 2 ^ (64 * m) := Nat.pow_le_pow_right (by decide) hs
  have h3 : (2 : Nat) ^ (64 * m) = 18446744073709551616 ^ m := by rw [Nat.pow_mul]
  rw [Nat.pow_add, ← h3]
  exact Nat.lt_of_lt_of_le h1 (Nat.mul_le_mul_left _ h2)
theorem less_words {X k m : Nat} (h : X < 18446744073709551616 ^ k) (hk : k ≤ m) : X < 18446744073709551616 ^ m := Nat.lt_of_lt_of_le h (Nat.pow_le_pow_right (by decide) hk)
set_option maxRecDepth 100000 in
set_option maxHeartbeats 1000000 in
theorem xscaled_any {w : World} {v : Value} {N : Nat} (m : Nat) (hm : 12178 ≤ m) (two five : Int) (h : IsN w v 128 N) (h2 : two ≤ 131072) (h5 : five ≤ 10000) :
    Calls Tryz.prog 182 #[v, .int .i64 two, .int .i64 five] w (TellsT w m (exP N two five)) := by
  obtain ⟨s, hs⟩ : ∃ s : Nat, (min (max (max two 0) 0) 131072).toNat = s := ⟨_, rfl⟩
  have hs2 : two.toNat = s := by omega
  have hsl : s ≤ 131072 := by omega
  have hP : exP N two five = N * 5 ^ five.toNat * 2 ^ s := by unfold exP; rw [hs2]
  rw [hP]
  have hmn : min five 20000 = five := by omega
  rcases five_steps five h5 with ⟨f0, f1⟩ | ⟨f0, f1, f2⟩ | ⟨f0, f1, f2, f3⟩
  · rw [f1, Nat.pow_zero, Nat.mul_one]
    have hsh := Lib.hid fun (w' : World) (h' : IsN w' v 128 N) => shl_t (max two 0) m (N * 2 ^ s) h' (by decide) (by rw [hs]) (less_words (shl_bnd 128 N s 2048 h'.lt (by omega)) (by omega))
    clear hP hs2 f1
    go_enter Tryz.func182, Tryz.ntmps182
    go_wp2
    refine wp_loop_rounds 1 ?_
    rw [rounds_succ]
    go_wp2_with fail
    refine (hsh.out _ h).mono ?_
    rintro e w1 ⟨v1, rfl, hv1, hb1⟩
    go_wp2
    go_ret
    exact ⟨_, rfl, hv1, hb1⟩
  · have hpw := Lib.hid fun w' => pow_t w' 5 (by decide) five five.toNat f2
    have hm5 : min five 5000 = five := by omega
    obtain ⟨F, hF⟩ : ∃ F, five.toNat = F := ⟨_, rfl⟩
    rw [hF] at hpw ⊢
    have hFl : F ≤ 5000 := by omega
    clear hP hs2 hF f2
    go_enter Tryz.func182, Tryz.ntmps182
    go_wp2
    refine wp_loop_rounds 2 ?_
    rw [rounds_succ]
    go_wp2_with fail
    refine (hpw.out _).mono ?_
    rintro e w1 ⟨v1, rfl, hv1, hb1⟩
    go_wp2_with fail
    refine (mul_t (h.below hb1) (IsT.isN hv1) (by decide) (by omega)).mono ?_
    rintro e w2 ⟨v2, rfl, hv2, hb2⟩
    have hn2 : IsN w2 v2 (128 + (F + 1)) (N * 5 ^ F) := IsT.isN hv2
    go_wp2_with fail
    rw [rounds_succ]
    go_wp2_with fail
    refine (shl_t (max two 0) m (N * 5 ^ F * 2 ^ s) hn2 (by omega) (by rw [hs]) (less_words (shl_bnd _ _ s 2048 hn2.lt (by omega)) (by omega))).mono ?_
    rintro e w3 ⟨v3, rfl, hv3, hb3⟩
    go_wp2
    go_ret
    exact ⟨_, rfl, hv3, (hb1.trans (hb2.mono hb1.size)).trans (hb3.mono (Nat.le_trans hb1.size hb2.size))⟩
  · obtain ⟨p5, hp5⟩ : ∃ p : Nat, p = 5000 := ⟨_, rfl⟩
    have hpw := Lib.hid fun w' => pow_t w' 5 (by decide) 5000 p5 (by rw [hp5]; decide)
    rw [← hp5] at f2
    have hpw2 := Lib.hid fun w' => pow_t w' 5 (by decide) (five - 5000) (five - 5000).toNat f3
    have hm5 : min five 5000 = 5000 := by omega
    have hm6 : min (five - 5000) 5000 = five - 5000 := by omega
    obtain ⟨F, hF⟩ : ∃ F, (five - 5000).toNat = F := ⟨_, rfl⟩
    rw [f2]
    rw [hF] at hpw2 ⊢
    have hFl : F ≤ 5000 := by omega
    rw [Nat.pow_add, ← Nat.mul_assoc]
    clear hP hs2 hF f2 f3
    obtain ⟨G, hG⟩ : ∃ G, 5 ^ p5 = G := ⟨_, rfl⟩
    rw [hG] at hpw ⊢
    clear hG
    go_enter Tryz.func182, Tryz.ntmps182
    go_wp2
    refine wp_loop_rounds 3 ?_
    rw [rounds_succ]
    go_wp2_with fail
    refine (hpw.out _).mono ?_
    rintro e w1 ⟨v1, rfl, hv1, hb1⟩
    go_wp2_with fail
    refine (mul_t (h.below hb1) (IsT.isN hv1) (by decide) (by omega)).mono ?_
    rintro e w2 ⟨v2, rfl, hv2, hb2⟩
    have hn2 : IsN w2 v2 (128 + (p5 + 1)) (N * G) := IsT.isN hv2
    go_wp2_with fail
    rw [rounds_succ]
    go_wp2_with fail
    refine (hpw2.out _).mono ?_
    rintro e w3 ⟨v3, rfl, hv3, hb3⟩
    go_wp2_with fail
    refine (mul_t (hn2.below hb3) (IsT.isN hv3) (by omega) (by omega)).mono ?_
    rintro e w4 ⟨v4, rfl, hv4, hb4⟩
    have hn4 : IsN w4 v4 (128 + (p5 + 1) + (F + 1)) (N * G * 5 ^ F) := IsT.isN hv4
    go_wp2_with fail
    rw [rounds_succ]
    go_wp2_with fail
    refine (shl_t (max two 0) m (N * G * 5 ^ F * 2 ^ s) hn4 (by omega) (by rw [hs]) (less_words (shl_bnd _ _ s 2048 hn4.lt (by omega)) (by omega))).mono ?_
    rintro e w5 ⟨v5, rfl, hv5, hb5⟩
    go_wp2
    go_ret
    have hB2 := hb1.trans (hb2.mono hb1.size)
    have hB4 := (hB2.trans (hb3.mono hB2.size)).trans (hb4.mono (Nat.le_trans hB2.size hb3.size))
    exact ⟨_, rfl, hv5, hB4.trans (hb5.mono hB4.size)⟩
end Go.Proofs.YtncfbleeidjflaaGreatDoor
