/- Values: the functions of the kinds, a form's shape, walked. Conditions: the tables of the forms, of the kinds' functions, the library's table of noughts. -/
/- Rows over the values: the variables out of the row's condition: the table of the forms, the kinds' functions, the library's table of noughts. Conditions: none. -/
/- Rows over the values: the map of the kinds' functions out of the row's condition. Conditions: none. -/
/- Rows over the values: a start that meets the rows' condition: the door's own heap, and the library's table of bytes. Conditions: none. -/
/- Values: the numbers of magnitudes, walked. Conditions: the variables that values read. -/
/- Values: At, Between, Pattern, walked. Conditions: the variables that values read. -/
/- Values: Pattern, walked. Conditions: the variables that values read. -/
/- Rows over print: a start that meets the condition of PrintSigns, PrintApart. Conditions: none. -/
/- Rows over print and parse: a start that meets the condition of PrintParsed, PrintDigits. Conditions: none. -/
import Derived.Test.YtdlkfnkmdlcekaaGreatDoorTp21
import Derived.Test.YtdlkfnkmdlcekaaGreatDoorTp11
import Derived.Test.YtdlkfnkmdlcekaaGreatDoorTp02
import Derived.Test.YtdlkfnkmdlcekaaGreatDoorTp04
import Derived.Test.YtdlkfnkmdlcekaaGreatDoorTp13
import Derived.Test.YtdlkfnkmdlcekaaGreatDoorTp06
import Derived.LaidHandle
import Derived.LaidMore
import Derived.Maps.Keyed
import Derived.WideKeyElems2
namespace Go.Proofs.YtdlkfnkmdlcekaaGreatDoor
open Go.RowKit Go.Cal
/-- The function of a kind. -/
def numI (k : Int) : Nat := if k = 1 then 206 else if k = 2 then 208 else if k = 3 then 210 else 212
/-- The table of the kinds' functions stands in its variable. -/
def NumW (w : World) : Prop := 1 < w.heap.size ∧ ∃ mv, w.cell? ⟨1, 0, none⟩ = some mv ∧ ∀ wr, Below w.heap.size w wr → (∀ k : Int, 1 ≤ k → k ≤ 4 → (Instr.lookup 134 mv (.int .i64 k) false).run Tryz.prog wr = .ok (.func (.func (numI k)) #[] #[]) wr) ∧ (Instr.lookup 134 mv (.int .i64 0) false).run Tryz.prog wr = .ok .nilFunc wr
theorem NumW.below {w w' : World} (h : NumW w) (hb : Below w.heap.size w w') : NumW w' := by
  obtain ⟨h1, mv, h2, h3⟩ := h
  exact ⟨Nat.lt_of_lt_of_le h1 hb.size, mv, by rw [(bcell hb).1 _ _ h1]; exact h2, fun wr hr => h3 wr (hb.trans (hr.mono hb.size))⟩
/-- The variables that values read. -/
structure VaW (w : World) : Prop where
  frm : TabF w
  num : NumW w
  bru : TabD w
theorem VaW.below {w w' : World} (h : VaW w) (hb : Below w.heap.size w w') : VaW w' := ⟨h.frm.below hb, h.num.below hb, h.bru.below hb⟩
theorem fK_bnd (id : Int) : 1 ≤ fK id ∧ fK id ≤ 4 := by unfold fK; split <;> omega
set_option maxRecDepth 100000 in
set_option maxHeartbeats 1000000 in
theorem vof_yes (id : Int) (h1 : 1 ≤ id) (h2 : id < 15) (w : World) (hW : VaW w) :
    Calls Tryz.prog 37 #[.int .i64 id] w fun e w' => e = .returned (.tuple #[.agg #[.int .i64 (fK id), .int .i64 (fW id), .int .i64 (fM id), .int .i64 (fB id), .int .u64 (fT id), .int .u64 (fI id), .int .u64 (fN id), .func (.func (numI (fK id))) #[] #[]], .int .i64 0]) ∧ Below w.heap.size w w' := by
  have hk := fK_bnd id
  go_enter Tryz.func37, Tryz.ntmps37
  go_wp2_with fail
  refine (fo_of id _ (hW.frm.below ((Below.refl _ _).alloc (Nat.le_refl _) _)) h1 h2).mono ?_
  rintro e w1 ⟨rfl, hb⟩
  have hB : Below w.heap.size w w1 := ((Below.refl _ _).alloc (Nat.le_refl _) _).trans (hb.mono (by simp))
  obtain ⟨hn1, mv, hn2, hn3⟩ := hW.num.below hB
  have hl := (hn3 (w1.alloc (.cells #[.int .i64 (fK id), .int .i64 (fW id), .int .i64 (fM id), .int .i64 (fB id), .int .u64 (fT id), .int .u64 (fI id), .int .u64 (fN id)] 39)) ((Below.refl _ _).alloc (Nat.le_refl _) _)).1 (fK id) hk.1 hk.2
  clear hn3
  have hz := hb.size
  simp at hz
  have hp := pBlk_st _ _ _ _ _ (pBlk_st _ _ _ _ _ (pBlk_made w #[.int .i64 0, .int .i64 0, .int .i64 0, .int .i64 0, .int .u64 0, .int .u64 0, .int .u64 0, .nilFunc] 78) hb) ((Below.refl _ _).alloc (Nat.le_refl _) (.cells #[.int .i64 (fK id), .int .i64 (fW id), .int .i64 (fM id), .int .i64 (fB id), .int .u64 (fT id), .int .u64 (fI id), .int .u64 (fN id)] 39))
  have hi : (Tryz.prog.info? 78).map (·.size) = some 8 := by kernel_rfl
  have hone : (#[.int .i64 (fK id), .int .i64 (fW id), .int .i64 (fM id), .int .i64 (fB id), .int .u64 (fT id), .int .u64 (fI id), .int .u64 (fN id), .func (.func (numI (fK id))) #[] #[]] : Array Value).all (·.oneCell') = true := by simp [Value.oneCell']
  go_wp2_with ((with_reducible show wpList _ _ _ (Oper.mk _ (Op.store 78 _ _) _ _ _ _ :: _) _ _); refine wpList_store_whole _ rfl 78 _ _ rfl w.heap.size #[.int .i64 (fK id), .int .i64 (fW id), .int .i64 (fM id), .int .i64 (fB id), .int .u64 (fT id), .int .u64 (fI id), .int .u64 (fN id), .func (.func (numI (fK id))) #[] #[]] #[.int .i64 0, .int .i64 0, .int .i64 0, .int .i64 0, .int .u64 0, .int .u64 0, .int .u64 0, .nilFunc] 78 rfl rfl hp hi rfl hone ?_; intro w2 hp2 hb2 hz2)
  have hB2 : Below w.heap.size w w2 := (hB.alloc hB.size _).trans hb2
  replace hp2 : pBlk w.heap.size #[.int .i64 (fK id), .int .i64 (fW id), .int .i64 (fM id), .int .i64 (fB id), .int .u64 (fT id), .int .u64 (fI id), .int .u64 (fN id), .func (.func (numI (fK id))) #[] #[]] 78 w2 := hp2
  have r0 := hp2.cell 0 _ rfl
  have r1 := hp2.cell 1 _ rfl
  have r2 := hp2.cell 2 _ rfl
  have r3 := hp2.cell 3 _ rfl
  have r4 := hp2.cell 4 _ rfl
  have r5 := hp2.cell 5 _ rfl
  have r6 := hp2.cell 6 _ rfl
  have r7 := hp2.cell 7 _ rfl
  clear hp2 hl hp
  exact bodyPost_ret (v := .tuple #[.agg #[.int .i64 (fK id), .int .i64 (fW id), .int .i64 (fM id), .int .i64 (fB id), .int .u64 (fT id), .int .u64 (fI id), .int .u64 (fN id), .func (.func (numI (fK id))) #[] #[]], .int .i64 0]) (by simp [results, Tryz.results37, go_sem, r0, r1, r2, r3, r4, r5, r6, r7]) rfl ⟨rfl, hB2⟩
set_option maxRecDepth 100000 in
set_option maxHeartbeats 1000000 in
theorem vof_no (id : Int) (h1 : id < 1 ∨ 15 ≤ id) (w : World) (hW : VaW w) :
    Calls Tryz.prog 37 #[.int .i64 id] w fun e w' => e = .returned (.tuple #[.agg #[.int .i64 0, .int .i64 0, .int .i64 0, .int .i64 0, .int .u64 0, .int .u64 0, .int .u64 0, .nilFunc], .int .i64 3]) ∧ Below w.heap.size w w' := by
  have hfn := Lib.hid (fun w => fo_none id w h1)
  clear h1
  go_enter Tryz.func37, Tryz.ntmps37
  go_wp2_with fail
  refine (hfn.out _).mono ?_
  rintro e w1 ⟨rfl, hb⟩
  have hB : Below w.heap.size w w1 := ((Below.refl _ _).alloc (Nat.le_refl _) _).trans (hb.mono (by simp))
  obtain ⟨hn1, mv, hn2, hn3⟩ := hW.num.below hB
  have hl := (hn3 (w1.alloc (.cells #[.int .i64 0, .int .i64 0, .int .i64 0, .int .i64 0, .int .u64 0, .int .u64 0, .int .u64 0] 39)) ((Below.refl _ _).alloc (Nat.le_refl _) _)).2
  clear hn3
  have hz := hb.size
  simp at hz
  have hp := pBlk_st _ _ _ _ _ (pBlk_st _ _ _ _ _ (pBlk_made w #[.int .i64 0, .int .i64 0, .int .i64 0, .int .i64 0, .int .u64 0, .int .u64 0, .int .u64 0, .nilFunc] 78) hb) ((Below.refl _ _).alloc (Nat.le_refl _) (.cells #[.int .i64 0, .int .i64 0, .int .i64 0, .int .i64 0, .int .u64 0, .int .u64 0, .int .u64 0] 39))
  have hi : (Tryz.prog.info? 78).map (·.size) = some 8 := by kernel_rfl
  have hone : (#[.int .i64 0, .int .i64 0, .int .i64 0, .int .i64 0, .int .u64 0, .int .u64 0, .int .u64 0, .nilFunc] : Array Value).all (·.oneCell') = true := by simp [Value.oneCell']
  go_wp2_with ((with_reducible show wpList _ _ _ (Oper.mk _ (Op.store 78 _ _) _ _ _ _ :: _) _ _); refine wpList_store_whole _ rfl 78 _ _ rfl w.heap.size #[.int .i64 0, .int .i64 0, .int .i64 0, .int .i64 0, .int .u64 0, .int .u64 0, .int .u64 0, .nilFunc] #[.int .i64 0, .int .i64 0, .int .i64 0, .int .i64 0, .int .u64 0, .int .u64 0, .int .u64 0, .nilFunc] 78 rfl rfl hp hi rfl hone ?_; intro w2 hp2 hb2 hz2)
  have hB2 : Below w.heap.size w w2 := (hB.alloc hB.size _).trans hb2
  replace hp2 : pBlk w.heap.size #[.int .i64 0, .int .i64 0, .int .i64 0, .int .i64 0, .int .u64 0, .int .u64 0, .int .u64 0, .nilFunc] 78 w2 := hp2
  have r0 := hp2.cell 0 _ rfl
  have r1 := hp2.cell 1 _ rfl
  have r2 := hp2.cell 2 _ rfl
  have r3 := hp2.cell 3 _ rfl
  have r4 := hp2.cell 4 _ rfl
  have r5 := hp2.cell 5 _ rfl
  have r6 := hp2.cell 6 _ rfl
  have r7 := hp2.cell 7 _ rfl
  clear hp2 hl hp
  exact bodyPost_ret (v := .tuple #[.agg #[.int .i64 0, .int .i64 0, .int .i64 0, .int .i64 0, .int .u64 0, .int .u64 0, .int .u64 0, .nilFunc], .int .i64 3]) (by simp [results, Tryz.results37, go_sem, r0, r1, r2, r3, r4, r5, r6, r7]) rfl ⟨rfl, hB2⟩
theorem shape_size : (Tryz.prog.info? 78).map (·.size) = some 8 := by kernel_rfl
theorem cells8 {w : World} {g : Nat} {a b c d e f h i : Value} {t : TypeId} (hp : w.heap[g]? = some (.cells #[a, b, c, d, e, f, h, i] t (0, 0))) :
    w.cell? ⟨g, 0, none⟩ = some a ∧ w.cell? ⟨g, 1, none⟩ = some b ∧ w.cell? ⟨g, 2, none⟩ = some c ∧ w.cell? ⟨g, 3, none⟩ = some d ∧ w.cell? ⟨g, 4, none⟩ = some e ∧ w.cell? ⟨g, 5, none⟩ = some f ∧ w.cell? ⟨g, 6, none⟩ = some h ∧ w.cell? ⟨g, 7, none⟩ = some i := by
  have hp : pBlk g #[a, b, c, d, e, f, h, i] t w := hp
  exact ⟨hp.cell 0 _ rfl, hp.cell 1 _ rfl, hp.cell 2 _ rfl, hp.cell 3 _ rfl, hp.cell 4 _ rfl, hp.cell 5 _ rfl, hp.cell 6 _ rfl, hp.cell 7 _ rfl⟩
/-- What Most tells. -/
def mostR (id : Int) (neg : Bool) : Int := if mostE id neg = 0 then mostV id neg else 0
theorem most_cases (id : Int) (neg : Bool) : ((id < 1 ∨ 15 ≤ id) ∧ mostE id neg = 3 ∧ mostR id neg = 0) ∨ (1 ≤ id ∧ id < 15 ∧
    ((neg = false ∧ mostE id neg = 0 ∧ mostR id neg = fT id) ∨ (neg = true ∧ (fK id == 4) = true ∧ mostE id neg = 5 ∧ mostR id neg = 0) ∨
     (neg = true ∧ (fK id == 4) = false ∧ (fK id == 3) = true ∧ 0 ≤ fT id ∧ fT id ≤ 127 ∧ mostE id neg = 0 ∧ mostR id neg = fT id + 1) ∨ (neg = true ∧ (fK id == 4) = false ∧ (fK id == 3) = false ∧ mostE id neg = 0 ∧ mostR id neg = fT id))) := by
  by_cases hid : id < 1 ∨ 15 ≤ id
  · left
    have hE : mostE id neg = 3 := by unfold mostE; rw [if_pos hid]
    exact ⟨hid, hE, by unfold mostR; rw [hE]; rfl⟩
  · right
    have h1 : 1 ≤ id := by omega
    have h2 : id < 15 := by omega
    refine ⟨h1, h2, ?_⟩
    rcases id_cases h1 h2 with rfl | rfl | rfl | rfl | rfl | rfl | rfl | rfl | rfl | rfl | rfl | rfl | rfl | rfl <;> cases neg <;> decide +kernel
set_option maxRecDepth 100000 in
set_option maxHeartbeats 1000000 in
theorem vmost_any (id : Int) (neg : Bool) (w : World) (hW : VaW w) :
    Calls Tryz.prog 25 #[.int .i64 id, .bool neg] w fun e w' => e = .returned (.tuple #[.int .u64 (mostR id neg), .int .i64 (mostE id neg)]) ∧ Below w.heap.size w w' := by
  rcases most_cases id neg with ⟨hid, hE, hR⟩ | ⟨h1, h2, ⟨rfl, hE, hR⟩ | ⟨rfl, h4, hE, hR⟩ | ⟨rfl, h4, h3, hT, hT', hE, hR⟩ | ⟨rfl, h4, h3, hE, hR⟩⟩
  · rw [hE, hR]
    have hfn := Lib.hid (fun w hW => vof_no id hid w hW)
    clear hid hE hR
    go_enter Tryz.func25, Tryz.ntmps25
    go_wp2_with fail
    refine (hfn.out _ hW).mono ?_
    rintro e w1 ⟨rfl, hb⟩
    go_wp2_with ((with_reducible show wpList _ _ _ (Oper.mk _ (Op.store 78 _ _) _ _ _ _ :: _) _ _); refine wpList_store_whole _ rfl 78 _ _ rfl (w1).heap.size #[.int .i64 0, .int .i64 0, .int .i64 0, .int .i64 0, .int .u64 0, .int .u64 0, .int .u64 0, .nilFunc] #[.int .i64 0, .int .i64 0, .int .i64 0, .int .i64 0, .int .u64 0, .int .u64 0, .int .u64 0, .nilFunc] 78 rfl rfl (pBlk_made w1 #[.int .i64 0, .int .i64 0, .int .i64 0, .int .i64 0, .int .u64 0, .int .u64 0, .int .u64 0, .nilFunc] 78) shape_size rfl (by simp [Value.oneCell']) ?_; intro w2 hp2 hb2 hz2; obtain ⟨r0, r1, r2, r3, r4, r5, r6, r7⟩ := cells8 hp2)
    go_ret2
    exact ⟨rfl, (hb.alloc hb.size _).trans (hb2.mono hb.size)⟩
  all_goals
    rw [hE, hR]
    have hfn := Lib.hid (fun w hW => vof_yes id h1 h2 w hW)
    have hk := fK_bnd id
    clear hE hR
    go_enter Tryz.func25, Tryz.ntmps25
    go_wp2_with fail
    refine (hfn.out _ hW).mono ?_
    rintro e w1 ⟨rfl, hb⟩
    go_wp2_with ((with_reducible show wpList _ _ _ (Oper.mk _ (Op.store 78 _ _) _ _ _ _ :: _) _ _); refine wpList_store_whole _ rfl 78 _ _ rfl (w1).heap.size #[.int .i64 (fK id), .int .i64 (fW id), .int .i64 (fM id), .int .i64 (fB id), .int .u64 (fT id), .int .u64 (fI id), .int .u64 (fN id), .func (.func (numI (fK id))) #[] #[]] #[.int .i64 0, .int .i64 0, .int .i64 0, .int .i64 0, .int .u64 0, .int .u64 0, .int .u64 0, .nilFunc] 78 rfl rfl (pBlk_made w1 #[.int .i64 0, .int .i64 0, .int .i64 0, .int .i64 0, .int .u64 0, .int .u64 0, .int .u64 0, .nilFunc] 78) shape_size rfl (by simp [Value.oneCell']) ?_; intro w2 hp2 hb2 hz2; obtain ⟨r0, r1, r2, r3, r4, r5, r6, r7⟩ := cells8 hp2)
    go_ret2
    exact ⟨rfl, (hb.alloc hb.size _).trans (hb2.mono hb.size)⟩
end Go.Proofs.YtdlkfnkmdlcekaaGreatDoor
namespace Go.Proofs.YtdlkfnkmdlcekaaGreatDoor
open Go.ChangeShapes Go.WideShapes Go.ChangeAt Go.RowKit Go.Cal
theorem plain_of_laid {W : World} {l : List (String × DataW Unit)} (h : laidMetH Tryz.prog l W) (hp : ((l.filter fun x => x.2.handleName?.isNone).all fun x => x.2.handleName?.isNone) = true) : laidMet Tryz.prog (l.filter fun x => x.2.handleName?.isNone) W := by
  have h1 := h.filter (fun x => x.2.handleName?.isNone)
  rwa [MakeChecks.laidMetH_plain _ _ _ hp] at h1
theorem gFormsX : Tryz.prog.globalNamed "caliper/forms.forms" = some 0 := by kernel_rfl
theorem tFormsX : (Tryz.prog.globals[0]?).map (·.type) = some 88 := by kernel_rfl
theorem plainFormsX : plainT Tryz.prog 3 88 = true := by kernel_rfl
theorem tabF_of_laid {W : World} {laid : List (String × DataW Unit)} (h : laidMet Tryz.prog laid W) (hm : ("caliper/forms.forms", Rows.laid_caliper_forms_forms) ∈ laid) : TabF W := by
  obtain ⟨ps, hl, _⟩ := h
  obtain ⟨g0, t0, cs0, f0, p0, hg0, ht0, hv0, hd0⟩ := laidVars_mem hl hm
  obtain rfl := Option.some.inj (gFormsX.symm.trans hg0)
  obtain rfl := Option.some.inj (tFormsX.symm.trans ht0)
  have hcs := cells_flat 3 _ _ _ _ _ plainFormsX hd0
  have hc : ∀ i v, cs0[i]? = some v → W.cell? ⟨0, i, none⟩ = some v := fun i v hi => by rw [World.var?_cell hg0 hv0 i]; exact hi
  have hc' : ∀ (i : Nat) v, (flat 3 (Rows.laid_caliper_forms_forms (H := Unit)))[i]? = some v → W.cell? ⟨0, i, none⟩ = some v := fun i v hi => hc i v (by rw [← Array.getElem?_toList, hcs]; exact hi)
  refine ⟨World.block_lt_of_cell? W ⟨0, 0, none⟩ (hc' 0 _ rfl), fun id h1 h2 => ?_⟩
  rcases id_cases h1 h2 with rfl | rfl | rfl | rfl | rfl | rfl | rfl | rfl | rfl | rfl | rfl | rfl | rfl | rfl <;>
    exact ⟨hc' _ _ rfl, hc' _ _ rfl, hc' _ _ rfl, hc' _ _ rfl, hc' _ _ rfl, hc' _ _ rfl, hc' _ _ rfl⟩
theorem tabD_of_laid {W : World} {laid : List (String × DataW Unit)} (h : laidMet Tryz.prog laid W) (hm : ("math/bits.deBruijn64tab", Rows.laid_math_bits_deBruijn64tab) ∈ laid) : TabD W := by
  obtain ⟨ps, hl, _⟩ := h
  obtain ⟨g, t, cs, fuel, p, h1, h2, h3, h4⟩ := laidVars_mem hl hm
  obtain rfl := Option.some.inj ((show Tryz.prog.globalNamed "math/bits.deBruijn64tab" = some 12 by kernel_rfl).symm.trans h1)
  obtain rfl := Option.some.inj ((show (Tryz.prog.globals[12]?).map (·.type) = some 236 by kernel_rfl).symm.trans h2)
  have h5 := Lib.cells_of_tab (k := .u8) (zs := Lib.deBruijn64tab.map fun (n : Nat) => (n : Int)) Tryz.underlying236 Tryz.underlying5 (by kernel_rfl) (by kernel_rfl) h4
  have hc : ∀ j, j < 64 → W.cell? ⟨12, j, none⟩ = some (.int .u8 (Lib.deBruijn64tab.getD j 0 : Nat)) := fun j hj => by
    rw [World.var?_cell h1 h3 j, ← Array.getElem?_toList, h5]
    rw [List.getElem?_map, List.getElem?_map, List.getD_eq_getElem?_getD, List.getElem?_eq_getElem (show j < Lib.deBruijn64tab.length from hj)]
    rfl
  exact ⟨World.block_lt_of_cell? W ⟨12, 0, none⟩ (hc 0 (by decide)), fun j hj => hc j hj⟩
end Go.Proofs.YtdlkfnkmdlcekaaGreatDoor
namespace Go.Proofs.YtdlkfnkmdlcekaaGreatDoor
open Go.ChangeShapes Go.WideShapes Go.ChangeAt Go.RowKit Go.Cal Go.Maps
def fnBytes (b : UInt8) : List UInt8 := [99, 97, 108, 105, 112, 101, 114, 47, 118, 97, 108, 117, 101, 46, 110, 117, 109, 98, 101, 114, 115, 36, b]
theorem law_int : Keyed Tryz.prog 3 := int_keyed Tryz.underlying3
theorem zero_func (w : World) : (zeroValue 76).run Tryz.prog w = .ok .nilFunc w := by kernel_rfl
theorem cells_func {v : Value} (h : v.formed Tryz.prog 76 = true) : v.cells.toList = [v] := by
  cases v with
  | agg cs => simp [Value.formed, Tryz.underlying76] at h
  | _ => rfl
theorem num_one {W wr : World} {b n : Nat} {es : Array MapEntry} {clock : Nat} (hb : wr.heap[b]? = some (.map es clock)) (F : Go.WideElems.Fit Tryz.prog 3 (Go.WideElems.elemAt (funcToken Tryz.prog) Tryz.prog W 0 (fun _ => true) true n 76) es clock) (k : Int) (by1 : UInt8) (f0 : FuncId) (hwf : (Lit.int .i64 k).wf = true)
    (hD : ∀ zd : DataW (List UInt8), (DataW.map ((es.toList.map (Go.WideElems.rg Tryz.prog 3 (Go.WideElems.elemAt (funcToken Tryz.prog) Tryz.prog W 0 (fun _ => true) true n 76))).foldr DataW.insert [])).atKey (.int .i64 k) zd = .held (fnBytes by1))
    (hone : ((List.range Tryz.prog.funcs.size).filter fun f => (Tryz.prog.funcs[f]?).any (·.name.toUTF8.data.toList == fnBytes by1)) = [f0]) :
    (Instr.lookup 134 (.map (some b)) (.int .i64 k) false).run Tryz.prog wr = .ok (.func (.func f0) #[] #[]) wr := by
  have hkey : keyOf Tryz.prog 3 (.int .i64 k) = some (.int .i64 k) := keyOf_int_mk Tryz.underlying3 hwf
  rcases fit_look false law_int Tryz.underlying134 (zero_func wr) hb F hkey with ⟨_, _, hz⟩ | ⟨e0, y, _, _, hrun, hR, hy, _⟩
  · have := (hz .nil).symm.trans (hD .nil)
    cases this
  · have h1 : y.1 = .held (fnBytes by1) := (hy .nil).symm.trans (hD .nil)
    unfold Go.WideElems.elemAt at hR
    split at hR
    · rename_i hf
      rw [cells_func hf] at hR
      obtain ⟨d, q⟩ := y
      subst h1
      have := func_of_trod (f0 := f0) Tryz.underlying76 hone hR
      rw [hrun]
      simp [this]
    · cases hR
theorem num_none {W wr : World} {b n : Nat} {es : Array MapEntry} {clock : Nat} (hb : wr.heap[b]? = some (.map es clock)) (F : Go.WideElems.Fit Tryz.prog 3 (Go.WideElems.elemAt (funcToken Tryz.prog) Tryz.prog W 0 (fun _ => true) true n 76) es clock)
    (hD : ∀ zd : DataW (List UInt8), (DataW.map ((es.toList.map (Go.WideElems.rg Tryz.prog 3 (Go.WideElems.elemAt (funcToken Tryz.prog) Tryz.prog W 0 (fun _ => true) true n 76))).foldr DataW.insert [])).atKey (.int .i64 0) zd = zd) :
    (Instr.lookup 134 (.map (some b)) (.int .i64 0) false).run Tryz.prog wr = .ok .nilFunc wr := by
  have hkey : keyOf Tryz.prog 3 (.int .i64 0) = some (.int .i64 0) := keyOf_int_mk Tryz.underlying3 (by decide)
  rcases fit_look false law_int Tryz.underlying134 (zero_func wr) hb F hkey with ⟨hrun, _, hz⟩ | ⟨e0, y, _, _, hrun, hR, hy, _⟩
  · rw [hrun]; rfl
  · have h1 := (hy .nil).symm.trans (hD .nil)
    have h2 := (hy (.agg [])).symm.trans (hD (.agg []))
    rw [h1] at h2
    cases h2
theorem numW_of_laid {W : World} {laid : List (String × DataW Unit)} (h : laidMetH Tryz.prog laid W) (hm : ("caliper/value.numbers", Rows.laid_caliper_value_numbers) ∈ laid) : NumW W := by
  obtain ⟨g, t, cs, fuel, p, hg, ht, hv, hd⟩ := h.funcs hm
  obtain rfl := Option.some.inj ((show Tryz.prog.globalNamed "caliper/value.numbers" = some 1 by kernel_rfl).symm.trans hg)
  obtain rfl := Option.some.inj ((show (Tryz.prog.globals[1]?).map (·.type) = some 134 by kernel_rfl).symm.trans ht)
  have hd' : DataW.trod (funcToken Tryz.prog) Tryz.prog W 0 (fun _ => true) true fuel 134 cs.toList = some (.map [(.int .i64 1, .held (fnBytes 49)), (.int .i64 2, .held (fnBytes 50)), (.int .i64 3, .held (fnBytes 51)), (.int .i64 4, .held (fnBytes 52))], p) := hd
  rcases Go.WideElems.open_map Tryz.underlying134 hd' with ⟨_, hx⟩ | ⟨b, es, clock, n, _, hcs, hb, _, F, hx⟩
  · cases hx
  · simp only [Prod.mk.injEq] at hx
    obtain ⟨hD, _⟩ := hx
    have hc : W.cell? ⟨1, 0, none⟩ = some (.map (some b)) := by
      have := World.var?_cell hg hv 0
      rw [Array.eq_one_of_toList hcs] at this
      simpa using this
    have hbl : b < W.heap.size := (Array.getElem?_eq_some_iff.1 hb).1
    refine ⟨World.block_lt_of_cell? W ⟨1, 0, none⟩ hc, _, hc, fun wr hr => ?_⟩
    have hbr : wr.heap[b]? = some (.map es clock) := by rw [hr.block b hbl]; exact hb
    refine ⟨fun k k1 k4 => ?_, num_none hbr F fun zd => by rw [← hD]; rfl⟩
    have hk : k = 1 ∨ k = 2 ∨ k = 3 ∨ k = 4 := by omega
    rcases hk with rfl | rfl | rfl | rfl
    · exact num_one hbr F 1 49 206 (by decide) (fun zd => by rw [← hD]; rfl) (by kernel_rfl)
    · exact num_one hbr F 2 50 208 (by decide) (fun zd => by rw [← hD]; rfl) (by kernel_rfl)
    · exact num_one hbr F 3 51 210 (by decide) (fun zd => by rw [← hD]; rfl) (by kernel_rfl)
    · exact num_one hbr F 4 52 212 (by decide) (fun zd => by rw [← hD]; rfl) (by kernel_rfl)
theorem vaW_of_laid {W : World} {laid : List (String × DataW Unit)} (h : laidMetH Tryz.prog laid W) (hp : ((laid.filter fun x => x.2.handleName?.isNone).all fun x => x.2.handleName?.isNone) = true)
    (h1 : ("caliper/forms.forms", Rows.laid_caliper_forms_forms) ∈ laid.filter fun x => x.2.handleName?.isNone) (h2 : ("caliper/value.numbers", Rows.laid_caliper_value_numbers) ∈ laid) (h3 : ("math/bits.deBruijn64tab", Rows.laid_math_bits_deBruijn64tab) ∈ laid.filter fun x => x.2.handleName?.isNone) : VaW W :=
  ⟨tabF_of_laid (plain_of_laid h hp) h1, numW_of_laid h h2, tabD_of_laid (plain_of_laid h hp) h3⟩
end Go.Proofs.YtdlkfnkmdlcekaaGreatDoor
namespace Go.Proofs.YtdlkfnkmdlcekaaGreatDoor
open Go.ChangeShapes Go.WideShapes Go.ChangeAt Go.RowKit Go.Cal
noncomputable def startW (os : Os) : World :=
  { World.doorLaid Tryz.prog 600 os with heap := (World.doorLaid Tryz.prog 600 os).heap.setIfInBounds 9 ((World.laidAll Tryz.prog os [("unicode/utf8.first", Rows.laid_unicode_utf8_first)]).heap.getD 9 (.cells #[] 0 (0, 0))) }
end Go.Proofs.YtdlkfnkmdlcekaaGreatDoor
namespace Go.Proofs.YtdlkfnkmdlcekaaGreatDoor
open Go.RowKit Go.Cal
set_option maxRecDepth 100000 in
set_option maxHeartbeats 1000000 in
theorem vodd_any (m : Nat) (e : Int) (hm : m < 18446744073709551616) (he : -100000 ≤ e ∧ e ≤ 100000) (w : World) (hT : TabD w) :
    Calls Tryz.prog 211 #[.int .u64 m, .int .i64 e] w fun x w' => x = .returned (.tuple #[.int .u64 ((oddP 64 m e).1 : Nat), .int .i64 (oddP 64 m e).2]) ∧ w = w' := by
  by_cases h0 : m = 0
  · have hv : oddP 64 m e = (0, 0) := by unfold oddP; rw [if_pos h0]
    rw [hv]
    subst h0
    go_enter Tryz.func211, Tryz.ntmps211
    go_wp2
    go_ret2
    exact ⟨rfl, rfl⟩
  · have hk := tzN_lt 64 m (by omega) (by omega)
    have hv : oddP 64 m e = (m / 2 ^ tzN 64 m, e + tzN 64 m) := by unfold oddP; rw [if_neg h0]
    have htz := Lib.hid (tz_any m (by omega) hm w hT)
    have h0' : ((m : Int) == 0) = false := by simp; omega
    obtain ⟨k, hk'⟩ : ∃ k, tzN 64 m = k := ⟨_, rfl⟩
    rw [hv]
    rw [hk'] at hk htz ⊢
    clear hv hk'
    go_enter Tryz.func211, Tryz.ntmps211
    go_wp2_with fail
    refine htz.out.mono ?_
    rintro x w1 ⟨rfl, rfl⟩
    go_wp2
    go_ret2
    exact ⟨rfl, rfl⟩
theorem wrap64_id {x : Int} (h1 : -1000000 ≤ x) (h2 : x ≤ 1000000) : wrap64 x = x := by
  unfold wrap64
  omega
theorem fo_wide {id : Int} (h1 : 1 ≤ id) (h2 : id < 15) : (fW id).toNat ≤ 64 ∧ 4 ≤ (fW id).toNat ∧ (fM id).toNat ≤ 52 ∧ (fB id).toNat ≤ 1023 ∧ fW id = ((fW id).toNat : Int) ∧ fM id = ((fM id).toNat : Int) ∧ fB id = ((fB id).toNat : Int) := by
  rcases id_cases h1 h2 with rfl | rfl | rfl | rfl | rfl | rfl | rfl | rfl | rfl | rfl | rfl | rfl | rfl | rfl <;> decide +kernel
/-- May a magnitude of a form with so many bits more be? -/
structure MagOk (id : Int) (more key : Nat) : Prop where
  few : more ≤ 1
  word : key < 18446744073709551616
  one : fK id = 1 → 0 < key ∧ key < 2 ^ ((fW id).toNat + more - 1)
  two : fK id = 2 → key / 2 ^ ((fM id).toNat + more) ≤ 4095
  four : fK id = 4 → key < 10000
theorem below_drewN (w : World) (n : Nat) : Below w.heap.size w (w.drewN n) := ⟨rfl, rfl, rfl, Nat.le_refl _, fun _ _ => rfl⟩
set_option maxRecDepth 100000 in
set_option maxHeartbeats 1000000 in
theorem num_any (id : Int) (h1 : 1 ≤ id) (h2 : id < 15) (more key : Nat) (mo ky : Int) (hmo : mo = more) (hky : ky = key) (hok : MagOk id more key) (w : World) (hW : VaW w) :
    Calls Tryz.prog (numI (fK id)) #[.agg #[.int .i64 (fK id), .int .i64 (fW id), .int .i64 (fM id), .int .i64 (fB id), .int .u64 (fT id), .int .u64 (fI id), .int .u64 (fN id)], .int .i64 mo, .int .u64 ky] w fun e w' => e = .returned (.tuple #[.int .u64 ((magV id more key).1 : Nat), .int .i64 (magV id more key).2]) ∧ Below w.heap.size w w' := by
  subst hmo; subst hky
  obtain ⟨w1, w2, w3, w4, e1, e2, e3⟩ := fo_wide h1 h2
  obtain ⟨k0, k1, k2, k3, k4⟩ := hok
  have hKc : fK id = 1 ∨ fK id = 2 ∨ fK id = 3 ∨ fK id = 4 := by have := fK_bnd id; omega
  rcases hKc with hK | hK | hK | hK
  · have hI : numI (fK id) = 206 := by rw [hK]; rfl
    obtain ⟨n, hn⟩ : ∃ n, (fW id).toNat + more - 1 = n := ⟨_, rfl⟩
    have hk := k2 hK
    rw [hn] at hk
    have hv : magV id more key = oddP 64 (poF (poL n key) (key % 2 ^ poL n key)) (4 * poR n key + poE (poL n key) (key % 2 ^ poL n key) - (poL n key - 2 : Nat)) := by
      unfold magV numQ
      rw [hK, hn]
      rfl
    have hpv := pvalue_any n key (by omega) (by omega) hk.1 hk.2
    rw [← hv] at hpv
    have hw : (n : Int) + 1 = fW id + more := by omega
    rw [hw] at hpv
    generalize magV id more key = p at hpv hv ⊢
    obtain ⟨mv, ev⟩ := p
    replace hpv := Lib.hid hpv
    rw [hI]
    clear hv hw hn hI k2 k3 k4
    have hb0 : -9223372036854775808 ≤ fW id + more ∧ fW id + more ≤ 9223372036854775807 := by omega
    replace hK := Lib.hid hK
    clear e1 e2 e3
    obtain ⟨hb0, hb1⟩ := hb0
    go_enter Tryz.func206, Tryz.ntmps206
    go_wp2_with fail
    refine (hpv.out _ (hW.bru.below ((Below.refl _ _).alloc (Nat.le_refl _) _))).mono ?_
    rintro e u1 ⟨rfl, hb⟩
    go_wp2
    go_ret2
    exact ⟨rfl, ((Below.refl _ _).alloc (Nat.le_refl _) _).trans (hb.mono (by simp))⟩
  · have hI : numI (fK id) = 208 := by rw [hK]; rfl
    have hv : magV id more key = oddP 64 (miM ((fM id).toNat + more) key) ((miE ((fM id).toNat + more) key : Int) - (fB id).toNat - ((fM id).toNat + more : Nat)) := by
      unfold magV numQ
      rw [hK]
      rfl
    have hpv := mvalue_any ((fM id).toNat + more) (fB id).toNat key (by omega) (by omega) k1 (k3 hK)
    rw [← hv, show (((fM id).toNat + more : Nat) : Int) = fM id + more by omega, ← e3] at hpv
    generalize magV id more key = p at hpv hv ⊢
    obtain ⟨mv, ev⟩ := p
    replace hpv := Lib.hid hpv
    rw [hI]
    clear hv hI k2 k3 k4
    have hb0 : -9223372036854775808 ≤ fM id + more ∧ fM id + more ≤ 9223372036854775807 := by omega
    replace hK := Lib.hid hK
    clear e1 e2 e3
    obtain ⟨hb0, hb1⟩ := hb0
    go_enter Tryz.func208, Tryz.ntmps208
    go_wp2_with fail
    refine (hpv.out _ (hW.bru.below ((Below.refl _ _).alloc (Nat.le_refl _) _))).mono ?_
    rintro e u1 ⟨rfl, hb⟩
    go_wp2
    go_ret2
    exact ⟨rfl, ((Below.refl _ _).alloc (Nat.le_refl _) _).trans (hb.mono (by simp))⟩
  · have hI : numI (fK id) = 210 := by rw [hK]; rfl
    have hv : magV id more key = oddP 64 key (-((fM id).toNat + more : Nat)) := by
      unfold magV numQ
      rw [hK]
      rfl
    have hpv := vodd_any key (-((fM id).toNat + more : Nat)) k1 (by omega)
    rw [← hv, show (-(((fM id).toNat + more : Nat) : Int)) = -fM id - more by omega] at hpv
    generalize magV id more key = p at hpv hv ⊢
    obtain ⟨mv, ev⟩ := p
    replace hpv := Lib.hid hpv
    rw [hI]
    clear hv hI k2 k3 k4
    have hb0 : 0 ≤ fM id ∧ fM id ≤ 52 := by omega
    replace hK := Lib.hid hK
    clear e1 e2 e3
    obtain ⟨hb0, hb1⟩ := hb0
    go_enter Tryz.func210, Tryz.ntmps210
    go_wp2_with fail
    refine (hpv.out _ (hW.bru.below ((Below.refl _ _).alloc (Nat.le_refl _) _))).mono ?_
    rintro e u1 ⟨rfl, rfl⟩
    go_wp2
    go_ret2
    exact ⟨rfl, ((Below.refl _ _).alloc (Nat.le_refl _) _)⟩
  · have hI : numI (fK id) = 212 := by rw [hK]; rfl
    have hk := k4 hK
    have hv : magV id more key = (1 + 2 * more, ((key / 2 ^ more : Nat) : Int) - (fB id).toNat - more) := by
      unfold magV numQ
      rw [hK]
      exact oddP_odd 64 (1 + 2 * more) _ (by omega)
    rw [hI, hv]
    clear hv hI k2 k3 k4
    have hb0 : 0 ≤ fB id ∧ fB id ≤ 1023 := by omega
    obtain ⟨hb0, hb1⟩ := hb0
    replace hK := Lib.hid hK
    have hwz := Lib.hid (show wrap64 (wrap64 (wrap64 ((key : Int) / 2 ^ more) - fB id) - (more : Int)) = ((key / 2 ^ more : Nat) : Int) - (fB id).toNat - more by
      have e4 : (key : Int) / 2 ^ more = ((key / 2 ^ more : Nat) : Int) := by push_cast; rfl
      have e5 : key / 2 ^ more ≤ key := Nat.div_le_self _ _
      rw [e4]
      generalize key / 2 ^ more = q at e5 ⊢
      have f1 : 0 ≤ (q : Int) ∧ (q : Int) < 10000 := by omega
      rw [wrap64_id (x := (q : Int)) (by omega) (by omega), wrap64_id (x := (q : Int) - fB id) (by omega) (by omega), wrap64_id (by omega) (by omega)]
      omega)
    clear e1 e2 e3
    go_enter Tryz.func212, Tryz.ntmps212
    go_wp2_with fail
    go_quiet (fail)
    go_wp2
    rw [hwz.out]
    go_ret2
    exact ⟨by push_cast; rfl, ((Below.refl _ _).alloc (Nat.le_refl _) _).trans ((below_drewN _ _).mono (by simp))⟩
end Go.Proofs.YtdlkfnkmdlcekaaGreatDoor
namespace Go.Proofs.YtdlkfnkmdlcekaaGreatDoor
open Go.RowKit Go.Cal
theorem pBlk_keep {g h : Nat} {cs : Array Value} {t : TypeId} {w w' : World} (hp : pBlk g cs t w) (hb : Below h w w') (hg : g < h) : pBlk g cs t w' := by
  unfold pBlk
  rw [hb.block g hg]
  exact hp
def fitM (id : Int) : Int := if fK id = 3 then fT id + 1 else fT id
theorem fitM_cases {id : Int} (h1 : 1 ≤ id) (h2 : id < 15) : ((fK id == 3) = true ∧ 0 ≤ fT id ∧ fT id ≤ 127 ∧ fitM id = fT id + 1) ∨ ((fK id == 3) = false ∧ fitM id = fT id) := by
  rcases id_cases h1 h2 with rfl | rfl | rfl | rfl | rfl | rfl | rfl | rfl | rfl | rfl | rfl | rfl | rfl | rfl <;> decide +kernel
set_option maxRecDepth 100000 in
set_option maxHeartbeats 1000000 in
theorem vfits_yes (id : Int) (h1 : 1 ≤ id) (h2 : id < 15) (key : Int) (hk : key ≤ fitM id) (w : World) (hW : VaW w) :
    Calls Tryz.prog 65 #[.int .i64 id, .int .u64 key] w fun e w' => e = .returned (.tuple #[.agg #[.int .i64 (fK id), .int .i64 (fW id), .int .i64 (fM id), .int .i64 (fB id), .int .u64 (fT id), .int .u64 (fI id), .int .u64 (fN id), .func (.func (numI (fK id))) #[] #[]], .int .i64 0]) ∧ Below w.heap.size w w' := by
  have hfn := Lib.hid (fun w hW => vof_yes id h1 h2 w hW)
  rcases fitM_cases h1 h2 with ⟨h3, hT, hT', hM⟩ | ⟨h3, hM⟩
  all_goals
    rw [hM] at hk
    have hng : ¬ key > fT id + 1 ∨ ¬ key > fT id := by omega
    clear hM hng
    go_enter Tryz.func65, Tryz.ntmps65
    go_wp2_with fail
    refine (hfn.out _ (hW.below ((Below.refl _ _).alloc (Nat.le_refl _) _))).mono ?_
    rintro e w1 ⟨rfl, hb⟩
    have hz := hb.size
    simp at hz
    have hB : Below w.heap.size w w1 := ((Below.refl _ _).alloc (Nat.le_refl _) _).trans (hb.mono (by simp))
    have hp1 := pBlk_st _ _ _ _ _ (pBlk_st _ _ _ _ _ (pBlk_made w #[.int .i64 0, .int .i64 0, .int .i64 0, .int .i64 0, .int .u64 0, .int .u64 0, .int .u64 0, .nilFunc] 78) hb) ((Below.refl _ _).alloc (Nat.le_refl _) (.cells #[.int .i64 0, .int .i64 0, .int .i64 0, .int .i64 0, .int .u64 0, .int .u64 0, .int .u64 0, .nilFunc] 78))
    go_wp2_with (first
      | ((with_reducible show wpList _ _ _ (Oper.mk _ (Op.store 78 _ _) _ _ _ _ :: _) _ _); refine wpList_store_whole _ rfl 78 _ _ rfl w1.heap.size #[.int .i64 (fK id), .int .i64 (fW id), .int .i64 (fM id), .int .i64 (fB id), .int .u64 (fT id), .int .u64 (fI id), .int .u64 (fN id), .func (.func (numI (fK id))) #[] #[]] #[.int .i64 0, .int .i64 0, .int .i64 0, .int .i64 0, .int .u64 0, .int .u64 0, .int .u64 0, .nilFunc] 78 rfl rfl (pBlk_made w1 #[.int .i64 0, .int .i64 0, .int .i64 0, .int .i64 0, .int .u64 0, .int .u64 0, .int .u64 0, .nilFunc] 78) shape_size rfl (by simp [Value.oneCell']) ?_; intro w2 hp2 hb2 hz2; obtain ⟨r0, r1, r2, r3, r4, r5, r6, r7⟩ := cells8 hp2; have hp0 := pBlk_keep hp1 hb2 (by omega))
      | ((with_reducible show wpList _ _ _ (Oper.mk _ (Op.store 78 _ _) _ _ _ _ :: _) _ _); refine wpList_store_whole _ rfl 78 _ _ rfl w.heap.size #[.int .i64 (fK id), .int .i64 (fW id), .int .i64 (fM id), .int .i64 (fB id), .int .u64 (fT id), .int .u64 (fI id), .int .u64 (fN id), .func (.func (numI (fK id))) #[] #[]] #[.int .i64 0, .int .i64 0, .int .i64 0, .int .i64 0, .int .u64 0, .int .u64 0, .int .u64 0, .nilFunc] 78 rfl rfl hp0 shape_size rfl (by simp [Value.oneCell']) ?_; intro w3 hp3 hb3 hz3; obtain ⟨s0, s1, s2, s3, s4, s5, s6, s7⟩ := cells8 hp3))
    have hB3 : Below w.heap.size w w3 := ((hB.alloc hB.size _).trans (hb2.mono hB.size)).trans hb3
    exact bodyPost_ret (v := .tuple #[.agg #[.int .i64 (fK id), .int .i64 (fW id), .int .i64 (fM id), .int .i64 (fB id), .int .u64 (fT id), .int .u64 (fI id), .int .u64 (fN id), .func (.func (numI (fK id))) #[] #[]], .int .i64 0]) (by simp [results, Tryz.results65, go_sem, s0, s1, s2, s3, s4, s5, s6, s7]) rfl ⟨rfl, hB3⟩
theorem numI_cases (k : Int) : numI k = 206 ∨ numI k = 208 ∨ numI k = 210 ∨ numI k = 212 := by
  unfold numI
  split
  · exact .inl rfl
  · split
    · exact .inr (.inl rfl)
    · split
      · exact .inr (.inr (.inl rfl))
      · exact .inr (.inr (.inr rfl))
theorem mag_tab {id : Int} (h1 : 1 ≤ id) (h2 : id < 15) : 0 ≤ fitM id ∧ 2 * (fitM id).toNat + 1 < 18446744073709551616 ∧ (fK id = 1 → 2 * (fitM id).toNat + 1 < 2 ^ ((fW id).toNat + 1 - 1) ∧ (fitM id).toNat < 2 ^ ((fW id).toNat + 0 - 1)) ∧
    (fK id = 2 → (2 * (fitM id).toNat + 1) / 2 ^ ((fM id).toNat + 1) ≤ 4095 ∧ (fitM id).toNat / 2 ^ ((fM id).toNat + 0) ≤ 4095) ∧ (fK id = 4 → 2 * (fitM id).toNat + 1 < 10000) := by
  rcases id_cases h1 h2 with rfl | rfl | rfl | rfl | rfl | rfl | rfl | rfl | rfl | rfl | rfl | rfl | rfl | rfl <;> decide +kernel
theorem mag_half {id : Int} {key : Nat} (h1 : 1 ≤ id) (h2 : id < 15) (hk : (key : Int) ≤ fitM id) : MagOk id 1 (2 * key + 1) := by
  obtain ⟨a, b, c, d, e⟩ := mag_tab h1 h2
  have hk' : key ≤ (fitM id).toNat := by omega
  refine ⟨by decide, by omega, fun h => ⟨by omega, by have := (c h).1; omega⟩, fun h => ?_, fun h => by have := e h; omega⟩
  exact Nat.le_trans (Nat.div_le_div_right (by omega)) (d h).1
theorem mag_own {id : Int} {key : Nat} (h1 : 1 ≤ id) (h2 : id < 15) (hk : (key : Int) ≤ fitM id) (h0 : fK id = 1 → 0 < key) : MagOk id 0 key := by
  obtain ⟨a, b, c, d, e⟩ := mag_tab h1 h2
  have hk' : key ≤ (fitM id).toNat := by omega
  refine ⟨by decide, by omega, fun h => ⟨h0 h, by have := (c h).2; omega⟩, fun h => ?_, fun h => by have := e h; omega⟩
  exact Nat.le_trans (Nat.div_le_div_right (by omega)) (d h).2
set_option maxRecDepth 100000 in
set_option maxHeartbeats 1000000 in
theorem vbetween_any (id : Int) (h1 : 1 ≤ id) (h2 : id < 15) (key : Nat) (hk : (key : Int) ≤ fitM id) (w : World) (hW : VaW w) :
    Calls Tryz.prog 154 #[.int .i64 id, .int .u64 key] w fun e w' => e = .returned (.tuple #[.int .u64 ((magV id 1 (2 * key + 1)).1 : Nat), .int .i64 (magV id 1 (2 * key + 1)).2, .int .i64 0]) ∧ Below w.heap.size w w' := by
  have hft := Lib.hid (fun w hW => vfits_yes id h1 h2 key hk w hW)
  have hok := mag_half h1 h2 hk
  have hlt := hok.word
  have hnm := fun w hW => num_any id h1 h2 1 (2 * key + 1) 1 (2 * key + 1) rfl (by push_cast; rfl) hok w hW
  generalize magV id 1 (2 * key + 1) = p at hnm ⊢
  obtain ⟨mv, ev⟩ := p
  clear hok hk
  rcases numI_cases (fK id) with hI | hI | hI | hI
  all_goals
    rw [hI] at hnm hft
    replace hnm := Lib.hid hnm
    go_enter Tryz.func154, Tryz.ntmps154
    go_wp2_with fail
    refine (hft.out _ hW).mono ?_
    rintro e w1 ⟨rfl, hb⟩
    go_wp2_with (first | ((with_reducible show wpList _ _ _ (Oper.mk _ (Op.store 78 _ _) _ _ _ _ :: _) _ _); refine wpList_store_whole _ rfl 78 _ _ rfl (w1).heap.size _ #[.int .i64 0, .int .i64 0, .int .i64 0, .int .i64 0, .int .u64 0, .int .u64 0, .int .u64 0, .nilFunc] 78 rfl rfl (pBlk_made w1 #[.int .i64 0, .int .i64 0, .int .i64 0, .int .i64 0, .int .u64 0, .int .u64 0, .int .u64 0, .nilFunc] 78) shape_size rfl (by simp [Value.oneCell']) ?_; intro w2 hp2 hb2 hz2; obtain ⟨r0, r1, r2, r3, r4, r5, r6, r7⟩ := cells8 hp2))
    have hB : Below w.heap.size w w2 := (hb.alloc hb.size _).trans (hb2.mono hb.size)
    refine (hnm.out _ (hW.below hB)).mono ?_
    rintro e w3 ⟨rfl, hb3⟩
    go_wp2
    go_ret3
    exact ⟨rfl, hB.trans (hb3.mono hB.size)⟩
end Go.Proofs.YtdlkfnkmdlcekaaGreatDoor
namespace Go.Proofs.YtdlkfnkmdlcekaaGreatDoor
open Go.RowKit Go.Cal
theorem pat_or (key : Int) (n : Nat) (hn : n ≤ 63) (h0 : 0 ≤ key) (h1 : key < 2 ^ n) : bits BinOp.or IntKind.u64 key (2 ^ n) = key + 2 ^ n := by
  obtain ⟨k, rfl⟩ := Int.eq_ofNat_of_zero_le h0
  have e1 : (2 : Int) ^ n = ((2 ^ n : Nat) : Int) := by push_cast; rfl
  rw [e1] at h1 ⊢
  have h3 : 2 ^ n ≤ 2 ^ 63 := Nat.pow_le_pow_right (by decide) hn
  have h2 : k < 2 ^ n := by exact_mod_cast h1
  rw [bits_or_u64_nat _ _ (by omega) (by omega), Nat.or_comm]
  have := Nat.two_pow_add_eq_or_of_lt h2 1
  rw [Nat.mul_one] at this
  rw [← this]
  push_cast
  omega
theorem pat_and (key : Int) (n : Nat) (hn : n ≤ 64) : bits BinOp.and IntKind.u64 (IntKind.u64.wrap (-key)) (2 ^ n - 1) = (-key) % 2 ^ n := by
  obtain ⟨x, hx⟩ : ∃ x : Nat, (-key) % 18446744073709551616 = (x : Int) := ⟨((-key) % 18446744073709551616).toNat, by omega⟩
  have hxl : x < 18446744073709551616 := by omega
  have e1 : (2 : Int) ^ n - 1 = ((2 ^ n - 1 : Nat) : Int) := by
    have := Nat.one_le_two_pow (n := n)
    push_cast [this]; rfl
  have h3 : 2 ^ n ≤ 2 ^ 64 := Nat.pow_le_pow_right (by decide) hn
  have h4 := Nat.two_pow_pos n
  rw [wrap_u64, hx, e1, bits_and_u64_nat _ _ hxl (by omega), Nat.and_two_pow_sub_one_eq_mod]
  push_cast
  rw [← hx]
  have hd : (2 : Int) ^ n ∣ 18446744073709551616 := by
    refine ⟨2 ^ (64 - n), ?_⟩
    rw [← Int.pow_add, show n + (64 - n) = 64 by omega]
    rfl
  exact Int.emod_emod_of_dvd _ hd
set_option maxRecDepth 100000 in
set_option maxHeartbeats 1000000 in
theorem vpat_any (id : Int) (neg : Bool) (key : Int) (he : mostE id neg = 0) (h0 : 0 ≤ key) (hk : key ≤ mostV id neg) (w : World) (hW : VaW w) :
    Calls Tryz.prog 18 #[.int .i64 id, .bool neg, .int .u64 key] w fun e w' => e = .returned (.tuple #[.int .u64 (patV id neg key), .int .i64 0]) ∧ Below w.heap.size w w' := by
  obtain ⟨h1, h2, h4⟩ := mostE_zero he
  have hm := fun w hW => vmost_any id neg w hW
  have hR : mostR id neg = mostV id neg := by unfold mostR; rw [if_pos he]
  have hbn := mostV_bnd id neg
  rw [he, hR] at hm
  replace hm := Lib.hid hm
  have hfn := Lib.hid (fun w hW => vof_yes id h1 h2 w hW)
  obtain ⟨w1, w2, w3, w4, e1, e2, e3⟩ := fo_wide h1 h2
  have hkb : key < 18446744073709551616 := by omega
  obtain ⟨mv, hmv⟩ : ∃ mv, mostV id neg = mv := ⟨_, rfl⟩
  have hfT : fK id = 2 → mv < 2 ^ ((fW id).toNat - 1) := by
    intro h
    rw [← hmv]
    clear hm hfn hmv hkb hbn hR hk e1 e2 e3 w1 w2 w3 w4
    rcases id_cases h1 h2 with rfl | rfl | rfl | rfl | rfl | rfl | rfl | rfl | rfl | rfl | rfl | rfl | rfl | rfl <;> cases neg <;> first | decide +kernel | (exact absurd h (by decide))
  rw [hmv] at hm hk
  clear hR hbn hmv he
  cases neg with
  | false =>
    have hv : patV id false key = key := by unfold patV; rw [if_pos rfl]
    rw [hv]
    clear hv hfT h4 e1 e2 e3
    go_enter Tryz.func18, Tryz.ntmps18
    go_wp2_with fail
    refine (hm.out _ hW).mono ?_
    rintro e u1 ⟨rfl, hb⟩
    go_wp2_with fail
    refine (hfn.out _ (hW.below hb)).mono ?_
    rintro e u2 ⟨rfl, hb1⟩
    go_wp2_with ((with_reducible show wpList _ _ _ (Oper.mk _ (Op.store 78 _ _) _ _ _ _ :: _) _ _); refine wpList_store_whole _ rfl 78 _ _ rfl (u2).heap.size #[.int .i64 (fK id), .int .i64 (fW id), .int .i64 (fM id), .int .i64 (fB id), .int .u64 (fT id), .int .u64 (fI id), .int .u64 (fN id), .func (.func (numI (fK id))) #[] #[]] #[.int .i64 0, .int .i64 0, .int .i64 0, .int .i64 0, .int .u64 0, .int .u64 0, .int .u64 0, .nilFunc] 78 rfl rfl (pBlk_made u2 #[.int .i64 0, .int .i64 0, .int .i64 0, .int .i64 0, .int .u64 0, .int .u64 0, .int .u64 0, .nilFunc] 78) shape_size rfl (by simp [Value.oneCell']) ?_; intro w2 hp2 hb2 hz2; obtain ⟨r0, r1, r2, r3, r4, r5, r6, r7⟩ := cells8 hp2)
    go_ret2
    exact ⟨rfl, (((hb.trans (hb1.mono hb.size)).alloc (Nat.le_trans hb.size hb1.size) _).trans (hb2.mono (Nat.le_trans hb.size hb1.size)))⟩
  | true =>
    by_cases hK : fK id = 2
    · have hv : patV id true key = key + 2 ^ ((fW id).toNat - 1) := by unfold patV; rw [if_neg (by decide), if_pos hK]
      have hor := Lib.hid (pat_or key ((fW id).toNat - 1) (by omega) h0 (by have := hfT hK; omega))
      have hsg := Lib.hid (fun w => fo_sign (fK id) (fW id) (fM id) (fB id) (fT id) (fI id) (fN id) w (by omega) (by omega) (by omega))
      have hK' : (fK id == 2) = true := by simp [hK]
      rw [hv]
      replace hK := Lib.hid hK
      clear hv hfT h4 e1 e2 e3
      go_enter Tryz.func18, Tryz.ntmps18
      go_wp2_with fail
      refine (hm.out _ hW).mono ?_
      rintro e u1 ⟨rfl, hb⟩
      go_wp2_with fail
      refine (hfn.out _ (hW.below hb)).mono ?_
      rintro e u2 ⟨rfl, hb1⟩
      go_wp2_with (first | ((with_reducible show wpList _ _ _ (Oper.mk _ (Op.store 78 _ _) _ _ _ _ :: _) _ _); refine wpList_store_whole _ rfl 78 _ _ rfl (u2).heap.size _ #[.int .i64 0, .int .i64 0, .int .i64 0, .int .i64 0, .int .u64 0, .int .u64 0, .int .u64 0, .nilFunc] 78 rfl rfl (pBlk_made u2 #[.int .i64 0, .int .i64 0, .int .i64 0, .int .i64 0, .int .u64 0, .int .u64 0, .int .u64 0, .nilFunc] 78) shape_size rfl (by simp [Value.oneCell']) ?_; intro w2 hp2 hb2 hz2; obtain ⟨r0, r1, r2, r3, r4, r5, r6, r7⟩ := cells8 hp2))
      refine (hsg.out _).mono ?_
      rintro e u3 ⟨rfl, hb3⟩
      go_wp2
      rw [hor.out]
      go_ret2
      have hs := Nat.le_trans hb.size hb1.size
      exact ⟨rfl, ((((hb.trans (hb1.mono hb.size)).alloc hs _).trans (hb2.mono hs))).trans (hb3.mono (by simp at hz2; omega))⟩
    · have hv : patV id true key = (-key) % 2 ^ (fW id).toNat := by unfold patV; rw [if_neg (by decide), if_neg hK]
      have han := Lib.hid (pat_and key (fW id).toNat w1)
      have hsg := Lib.hid (fun w => fo_mask (fK id) (fW id) (fM id) (fB id) (fT id) (fI id) (fN id) w (by omega) (by omega))
      have hK' : (fK id == 2) = false := by simp [hK]
      rw [hv]
      replace hK := Lib.hid hK
      clear hv hfT h4 e1 e2 e3
      go_enter Tryz.func18, Tryz.ntmps18
      go_wp2_with fail
      refine (hm.out _ hW).mono ?_
      rintro e u1 ⟨rfl, hb⟩
      go_wp2_with fail
      refine (hfn.out _ (hW.below hb)).mono ?_
      rintro e u2 ⟨rfl, hb1⟩
      go_wp2_with (first | ((with_reducible show wpList _ _ _ (Oper.mk _ (Op.store 78 _ _) _ _ _ _ :: _) _ _); refine wpList_store_whole _ rfl 78 _ _ rfl (u2).heap.size _ #[.int .i64 0, .int .i64 0, .int .i64 0, .int .i64 0, .int .u64 0, .int .u64 0, .int .u64 0, .nilFunc] 78 rfl rfl (pBlk_made u2 #[.int .i64 0, .int .i64 0, .int .i64 0, .int .i64 0, .int .u64 0, .int .u64 0, .int .u64 0, .nilFunc] 78) shape_size rfl (by simp [Value.oneCell']) ?_; intro w2 hp2 hb2 hz2; obtain ⟨r0, r1, r2, r3, r4, r5, r6, r7⟩ := cells8 hp2))
      refine (hsg.out _).mono ?_
      rintro e u3 ⟨rfl, hb3⟩
      go_wp2
      rw [han.out]
      go_ret2
      have hs := Nat.le_trans hb.size hb1.size
      exact ⟨rfl, ((((hb.trans (hb1.mono hb.size)).alloc hs _).trans (hb2.mono hs))).trans (hb3.mono (by simp at hz2; omega))⟩
end Go.Proofs.YtdlkfnkmdlcekaaGreatDoor
namespace Go.Proofs.YtdlkfnkmdlcekaaGreatDoor
open Go.ChangeShapes Go.WideShapes Go.ChangeAt Go.RowKit Go.Cal
theorem start_metS (os : Os) (args : Array Value) : laidMetH Tryz.prog Rows.printSignsRow.laid ((startW os).forCall (fun _ _ => 0) ⟨#[], args, []⟩).memory :=
  laidMetH_of_parts3 (fuel := 8) (laidMet_of_run' 8 (by kernel_rfl) (by kernel_rfl)) (by kernel_rfl) (by kernel_rfl)
end Go.Proofs.YtdlkfnkmdlcekaaGreatDoor
namespace Go.Proofs.YtdlkfnkmdlcekaaGreatDoor
open Go.ChangeShapes Go.WideShapes Go.ChangeAt Go.RowKit Go.Cal
theorem start_metP (os : Os) (args : Array Value) : laidMetH Tryz.prog Rows.printParsedRow.laid ((startW os).forCall (fun _ _ => 0) ⟨#[], args, []⟩).memory :=
  laidMetH_of_parts3 (fuel := 8) (laidMet_of_run' 8 (by kernel_rfl) (by kernel_rfl)) (by kernel_rfl) (by kernel_rfl)
end Go.Proofs.YtdlkfnkmdlcekaaGreatDoor
