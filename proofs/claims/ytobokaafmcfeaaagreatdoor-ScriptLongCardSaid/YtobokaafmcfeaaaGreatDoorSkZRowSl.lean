/- What is proved: the statement ScriptLong: whatever the input, the call tells true and the arguments read as they did. Condition: the package-level tables read as the program's text lays them, which the card ties. -/
import Derived.Test.YtobokaafmcfeaaaGreatDoorSk21
import Derived.Test.YtobokaafmcfeaaaGreatDoorSk41
import Derived.Test.YtobokaafmcfeaaaGreatDoorSk42
import Derived.Test.YtobokaafmcfeaaaGreatDoorSk40
namespace Go.Proofs.YtobokaafmcfeaaaGreatDoor
open Go.ChangeShapes Go.WideShapes Go.ChangeAt Go.RowKit Go.Cal
theorem scriptLong_w (a0 : Int) (a1 : Int) (w : World) (hW : VaW w) (_ : -9223372036854775808 ≤ a0 ∧ a0 ≤ 9223372036854775807) (_ : -9223372036854775808 ≤ a1 ∧ a1 ≤ 9223372036854775807) :
    Calls Tryz.prog 12 #[.int .i64 a0, .int .i64 a1] w fun e w' => e = .returned (.bool true) ∧ Below w.heap.size w w' := scriptLong_any a0 a1 w hW 
set_option maxRecDepth 100000 in
theorem scriptLong_lifted (os : Os) (started : os.Started) (H : Type) (enc : TypeId × Value → H) :
    ReturnsInHanded {} Tryz.checked os 12 .any (fun w args => (Rows.scriptLongSpec.pre enc Tryz.prog Tryz.f12 [] false w args ∧ laidMetH Tryz.prog Rows.scriptLongRow.laid w) ∧ sizedMet enc Tryz.prog Tryz.f12 (OpenSpec.ofChange Rows.scriptLongSpec) false w args)
      (Rows.scriptLongSpec.post enc Tryz.prog Tryz.f12 false true false false) := by
  refine returnsInHanded_of_change_and (C := Tryz.checked) (X := fun w _ => laidMetH Tryz.prog Rows.scriptLongRow.laid w) (fun _ _ _ hh h => h.of_heap hh) own started (by kernel_rfl) Tryz.func12
    (ChangeSpec.witness_shaped (enc := enc) (C := Tryz.checked) (os := os) (X := fun w _ => laidMetH Tryz.prog Rows.scriptLongRow.laid w) false (startW os) #[.int .i64 0, .int .i64 0] 8 rfl (World.shaped_of_RefB (by kernel_rfl) (by kernel_rfl)) (by kernel_rfl) (by kernel_rfl) (by kernel_rfl) (start_metC os _)) ?_
  intro W base args ds gs before hval0 hW _ _ hL _
  have hval : ∀ (j : Nat) t v, Tryz.f12.params[j]? = some t → args[j]? = some v → Value.okWide Tryz.prog W .any base t v := hval0
  have hW' := hW
  obtain ⟨p, q, hA0, hV, rfl, hfz, hnd⟩ := hW
  have hA : DataW.TrodAll enc Tryz.prog W 0 (fun _ => true) true Tryz.f12.params.toList args.toList ds p := hA0
  rw [Tryz.params12] at hA hval
  obtain ⟨v0, v1, d0, d1, p0, p1, rfl, rfl, rfl, h0, h1⟩ := trodAll_two hA
  obtain ⟨rfl, rfl⟩ := trodVars_none hV
  have hlt := fun x hx => hW'.lt x hx
  simp only [List.append_nil, List.mem_append] at hlt
  obtain ⟨a0, rfl, rfl, rfl, wa0⟩ := open_int Tryz.underlying3 (hval 0 3 v0 rfl rfl) h0
  obtain ⟨a1, rfl, rfl, rfl, wa1⟩ := open_int Tryz.underlying3 (hval 1 3 v1 rfl rfl) h1
  have hT : VaW W := vaW_of_laid (laid := Rows.scriptLongRow.laid) hL (by kernel_rfl) (List.mem_filter.2 ⟨(by dsimp only [Rows.scriptLongRow]; repeat (first | exact List.mem_cons_self | apply List.mem_cons_of_mem)), rfl⟩) (by dsimp only [Rows.scriptLongRow]; repeat (first | exact List.mem_cons_self | apply List.mem_cons_of_mem)) (List.mem_filter.2 ⟨(by dsimp only [Rows.scriptLongRow]; repeat (first | exact List.mem_cons_self | apply List.mem_cons_of_mem)), rfl⟩)
  clear hA0 hval0
  simp only [List.append_nil] at hW'
  refine (scriptLong_w a0 a1 W hT (bounds_i64 wa0) (bounds_i64 wa1)).mono fun e W' ⟨he, hw⟩ => ?_
  subst he
  exact ⟨_, rfl, _, _, _, [], _, [], hW', trodAll_mk1 (shut_bool Tryz.underlying4 _), trodAll_mk2 (shut_int Tryz.underlying3 wa0) (shut_int Tryz.underlying3 wa1), rfl, hw.frame _, fun h => by cases h⟩
theorem scriptLong_j1 : (Rows.scriptLongRow.inPlace == Tryz.pinned.checked.prog.inPlace 12) = true := by kernel_rfl
theorem scriptLong_j2 : (Rows.scriptLongRow.unfollowed == Tryz.pinned.checked.prog.unfollowed 12) = true := by kernel_rfl
theorem scriptLong_j3 : (Rows.scriptLongRow.recurses == Tryz.pinned.checked.prog.recurses 12) = true := by kernel_rfl
theorem scriptLong_j4 : (Rows.scriptLongRow.named == Tryz.pinned.checked.prog.varsNamed 12) = true := by kernel_rfl
theorem scriptLong_g : false = Rows.scriptLongRow.goesBy Tryz.pinned.checked.prog := by kernel_rfl
theorem scriptLong_n : Tryz.pinned.checked.prog.funcNamed Rows.scriptLongRow.func = some 12 := by kernel_rfl
theorem scriptLong_i : Tryz.f12.isInstance Tryz.pinned.checked.prog Rows.scriptLongRow.origin Rows.scriptLongRow.targs := of_decide_eq_true (by kernel_rfl)
theorem scriptLong_closed : joinedFacts Tryz.pinned.checked.prog 12 Tryz.f12 Rows.scriptLongSpec Rows.scriptLongRow = true := by
  unfold joinedFacts
  rw [scriptLong_j1, scriptLong_j2, scriptLong_j3, scriptLong_j4, prg_laidOut, prg_mapsRowed, prg_stops, prg_knobs, prg_heard, prg_enter, prg_keys, prg_lifted, prg_make, prg_pinned]
  kernel_rfl
theorem scriptLong_said : Rows.ScriptLongSaid :=
  OpenClaim.holds_of_wide 12 Tryz.f12 rfl rfl rfl rfl rfl rfl rfl ⟨rfl, rfl, rfl, rfl, rfl⟩ rfl rfl rfl rfl rfl scriptLong_n Tryz.func12 scriptLong_closed
    scriptLong_i (by unfold Func.isWrapper; first | (rw [if_pos (by decide +kernel)]; kernel_rfl) | (rw [if_neg (by decide +kernel)]; exact ⟨rfl, rfl⟩))
    (fun os started H enc _ => scriptLong_lifted os started H enc)
theorem scriptLong_plain (f : FuncId) (fn : Func) (hf : Tryz.pinned.checked.prog.funcNamed "caliper/caliperlaw19.ScriptLong" = some f) (hfn : Tryz.pinned.checked.prog.funcs[f]? = some fn) :
    true = Tryz.pinned.checked.prog.looks [] ∧ ∀ (j : Nat) t, fn.params[j]? = some t → Tryz.pinned.checked.prog.wantsStandIn t = false := by
  obtain rfl : f = 12 := Option.some.inj ((show Tryz.prog.funcNamed "caliper/caliperlaw19.ScriptLong" = some 12 by kernel_rfl).symm.trans hf) |>.symm
  obtain rfl : fn = Tryz.f12 := (Option.some.inj (Tryz.func12.symm.trans hfn)).symm
  refine ⟨by kernel_rfl, fun j t ht => ?_⟩
  rw [Tryz.params12] at ht
  have hm : t ∈ [3, 3] := by simpa using Array.mem_of_getElem? ht
  have hall : ([3, 3].all fun u => !Tryz.prog.wantsStandIn u) = true := by kernel_rfl
  exact (show Tryz.prog.wantsStandIn t = false by simpa using List.all_eq_true.1 hall t hm)
theorem scriptLong_card : Rows.ScriptLongCardSaid :=
  Claim7.holds_tied_plain_at .later [] _ _ _ _ scriptLong_said (fun _ h => by cases h) (by kernel_rfl) (fun _ h => by cases h) scriptLong_row_tie rfl ⟨rfl, rfl⟩ (by kernel_rfl) rfl scriptLong_plain scriptLong_g
end Go.Proofs.YtobokaafmcfeaaaGreatDoor
