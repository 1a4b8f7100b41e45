/- What is proved: the statement ScriptCuts: whatever the input, the call tells true and the arguments read as they did. Condition: the package-level tables read as the program's text lays them, which the card ties. -/
import Derived.Test.YtobokaafmcfeaaaGreatDoorSn02
namespace Go.Proofs.YtobokaafmcfeaaaGreatDoor
open Go.ChangeShapes Go.WideShapes Go.ChangeAt Go.RowKit Go.Cal
theorem scriptCuts_w (a0 : Int) (a1 : Value) (a2 : Int) (w : World) (hW : VaW w) (_ : -9223372036854775808 ≤ a0 ∧ a0 ≤ 9223372036854775807) (h1 : ArgB w a1) (_ : -9223372036854775808 ≤ a2 ∧ a2 ≤ 9223372036854775807) :
    Calls Tryz.prog 11 #[.int .i64 a0, a1, .int .i64 a2] w fun e w' => e = .returned (.bool true) ∧ Below w.heap.size w w' := scriptCuts_any a0 a2 a1 w hW h1
set_option maxRecDepth 100000 in
theorem scriptCuts_lifted (os : Os) (started : os.Started) (H : Type) (enc : TypeId × Value → H) :
    ReturnsInHanded {} Tryz.checked os 11 .any (fun w args => (Rows.scriptCutsSpec.pre enc Tryz.prog Tryz.f11 [] false w args ∧ laidMetH Tryz.prog Rows.scriptCutsRow.laid w) ∧ sizedMet enc Tryz.prog Tryz.f11 (OpenSpec.ofChange Rows.scriptCutsSpec) false w args)
      (Rows.scriptCutsSpec.post enc Tryz.prog Tryz.f11 false true false false) := by
  refine returnsInHanded_of_change_and (C := Tryz.checked) (X := fun w _ => laidMetH Tryz.prog Rows.scriptCutsRow.laid w) (fun _ _ _ hh h => h.of_heap hh) own started (by kernel_rfl) Tryz.func11
    (ChangeSpec.witness_shaped (enc := enc) (C := Tryz.checked) (os := os) (X := fun w _ => laidMetH Tryz.prog Rows.scriptCutsRow.laid w) false (startW os) #[.int .i64 0, .slice none 0 0, .int .i64 0] 8 rfl (World.shaped_of_RefB (by kernel_rfl) (by kernel_rfl)) (by kernel_rfl) (by kernel_rfl) (by kernel_rfl) (start_metC os _)) ?_
  intro W base args ds gs before hval0 hW _ _ hL _
  have hval : ∀ (j : Nat) t v, Tryz.f11.params[j]? = some t → args[j]? = some v → Value.okWide Tryz.prog W .any base t v := hval0
  have hW' := hW
  obtain ⟨p, q, hA0, hV, rfl, hfz, hnd⟩ := hW
  have hA : DataW.TrodAll enc Tryz.prog W 0 (fun _ => true) true Tryz.f11.params.toList args.toList ds p := hA0
  rw [Tryz.params11] at hA hval
  obtain ⟨v0, v1, v2, d0, d1, d2, p0, p1, p2, rfl, rfl, rfl, h0, h1, h2⟩ := trodAll_three hA
  obtain ⟨rfl, rfl⟩ := trodVars_none hV
  have hlt := fun x hx => hW'.lt x hx
  simp only [List.append_nil, List.mem_append] at hlt
  obtain ⟨a0, rfl, rfl, rfl, wa0⟩ := open_int Tryz.underlying3 (hval 0 3 v0 rfl rfl) h0
  have hl1 : ∀ x ∈ p1, x.block < W.heap.size := fun x hx => hlt x (by first | exact hx | simp [hx])
  have ha1 := argB_of (hval 1 42 v1 rfl rfl) h1 hl1
  obtain ⟨a2, rfl, rfl, rfl, wa2⟩ := open_int Tryz.underlying3 (hval 2 3 v2 rfl rfl) h2
  have hT : VaW W := vaW_of_laid (laid := Rows.scriptCutsRow.laid) hL (by kernel_rfl) (List.mem_filter.2 ⟨(by dsimp only [Rows.scriptCutsRow]; repeat (first | exact List.mem_cons_self | apply List.mem_cons_of_mem)), rfl⟩) (by dsimp only [Rows.scriptCutsRow]; repeat (first | exact List.mem_cons_self | apply List.mem_cons_of_mem)) (List.mem_filter.2 ⟨(by dsimp only [Rows.scriptCutsRow]; repeat (first | exact List.mem_cons_self | apply List.mem_cons_of_mem)), rfl⟩)
  clear hA0 hval0
  simp only [List.append_nil] at hW'
  refine (scriptCuts_w a0 v1 a2 W hT (bounds_i64 wa0) ha1 (bounds_i64 wa2)).mono fun e W' ⟨he, hw⟩ => ?_
  subst he
  exact ⟨_, rfl, _, _, _, [], _, [], hW', trodAll_mk1 (shut_bool Tryz.underlying4 _), trodAll_mk3 (shut_int Tryz.underlying3 wa0) (Below.trod laid_out (by kernel_rfl) (of_decide_eq_true (by kernel_rfl)) h1 hw hl1) (shut_int Tryz.underlying3 wa2), rfl, hw.frame _, fun h => by cases h⟩
theorem scriptCuts_j1 : (Rows.scriptCutsRow.inPlace == Tryz.pinned.checked.prog.inPlace 11) = true := by kernel_rfl
theorem scriptCuts_j2 : (Rows.scriptCutsRow.unfollowed == Tryz.pinned.checked.prog.unfollowed 11) = true := by kernel_rfl
theorem scriptCuts_j3 : (Rows.scriptCutsRow.recurses == Tryz.pinned.checked.prog.recurses 11) = true := by kernel_rfl
theorem scriptCuts_j4 : (Rows.scriptCutsRow.named == Tryz.pinned.checked.prog.varsNamed 11) = true := by kernel_rfl
theorem scriptCuts_g : false = Rows.scriptCutsRow.goesBy Tryz.pinned.checked.prog := by kernel_rfl
theorem scriptCuts_n : Tryz.pinned.checked.prog.funcNamed Rows.scriptCutsRow.func = some 11 := by kernel_rfl
theorem scriptCuts_i : Tryz.f11.isInstance Tryz.pinned.checked.prog Rows.scriptCutsRow.origin Rows.scriptCutsRow.targs := of_decide_eq_true (by kernel_rfl)
theorem scriptCuts_k_keys : (Rows.scriptCutsRow.plainKeys == Tryz.pinned.checked.prog.plainKeys) = true := prg_keys
theorem scriptCuts_k_lifted : (Rows.scriptCutsRow.lifted == Tryz.pinned.checked.prog.liftsFinal) = true := prg_lifted
theorem scriptCuts_k_make : (Tryz.pinned.checked.prog.make == some Rows.scriptCutsRow.make) = true := prg_make
theorem scriptCuts_k_pinned : (Rows.scriptCutsRow.pinned == Rows.scriptCutsRow.pinnedBy) = true := prg_pinned
theorem scriptCuts_closed : joinedFacts Tryz.pinned.checked.prog 11 Tryz.f11 Rows.scriptCutsSpec Rows.scriptCutsRow = true := by
  unfold joinedFacts
  rw [scriptCuts_j1, scriptCuts_j2, scriptCuts_j3, scriptCuts_j4, prg_laidOut, prg_mapsRowed, prg_stops, prg_knobs, prg_heard, prg_enter, scriptCuts_k_keys, scriptCuts_k_lifted, scriptCuts_k_make, scriptCuts_k_pinned]
  kernel_rfl
theorem scriptCuts_said : Rows.ScriptCutsSaid :=
  OpenClaim.holds_of_wide 11 Tryz.f11 rfl rfl rfl rfl rfl rfl rfl ⟨rfl, rfl, rfl, rfl, rfl⟩ rfl rfl rfl rfl rfl scriptCuts_n Tryz.func11 scriptCuts_closed
    scriptCuts_i (by unfold Func.isWrapper; first | (rw [if_pos (by decide +kernel)]; kernel_rfl) | (rw [if_neg (by decide +kernel)]; exact ⟨rfl, rfl⟩))
    (fun os started H enc _ => scriptCuts_lifted os started H enc)
theorem scriptCuts_plain (f : FuncId) (fn : Func) (hf : Tryz.pinned.checked.prog.funcNamed "caliper/caliperlaw19.ScriptCuts" = some f) (hfn : Tryz.pinned.checked.prog.funcs[f]? = some fn) :
    true = Tryz.pinned.checked.prog.looks [] ∧ ∀ (j : Nat) t, fn.params[j]? = some t → Tryz.pinned.checked.prog.wantsStandIn t = false := by
  obtain rfl : f = 11 := Option.some.inj ((show Tryz.prog.funcNamed "caliper/caliperlaw19.ScriptCuts" = some 11 by kernel_rfl).symm.trans hf) |>.symm
  obtain rfl : fn = Tryz.f11 := (Option.some.inj (Tryz.func11.symm.trans hfn)).symm
  refine ⟨by kernel_rfl, fun j t ht => ?_⟩
  rw [Tryz.params11] at ht
  have hm : t ∈ [3, 42, 3] := by simpa using Array.mem_of_getElem? ht
  have hall : ([3, 42, 3].all fun u => !Tryz.prog.wantsStandIn u) = true := by kernel_rfl
  exact (show Tryz.prog.wantsStandIn t = false by simpa using List.all_eq_true.1 hall t hm)
theorem scriptCuts_card : Rows.ScriptCutsCardSaid :=
  Claim7.holds_tied_plain_at .later [] _ _ _ _ scriptCuts_said (fun _ h => by cases h) (by kernel_rfl) (fun _ h => by cases h) scriptCuts_row_tie rfl ⟨rfl, rfl⟩ (by kernel_rfl) rfl scriptCuts_plain scriptCuts_g
end Go.Proofs.YtobokaafmcfeaaaGreatDoor
