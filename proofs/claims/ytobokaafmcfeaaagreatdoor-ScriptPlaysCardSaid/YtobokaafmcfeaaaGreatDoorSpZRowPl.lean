/- What is proved: the statement ScriptPlays: whatever the input, the call tells true and the arguments read as they did. Condition: the package-level tables read as the program's text lays them, which the card ties. -/
import Derived.Test.YtobokaafmcfeaaaGreatDoorSp01
namespace Go.Proofs.YtobokaafmcfeaaaGreatDoor
open Go.ChangeShapes Go.WideShapes Go.ChangeAt Go.RowKit Go.Cal
theorem scriptPlays_w (a0 : Int) (a1 : Value) (w : World) (hW : VaW w) (_ : -9223372036854775808 ≤ a0 ∧ a0 ≤ 9223372036854775807) (h1 : ArgA w a1) :
    Calls Tryz.prog 9 #[.int .i64 a0, a1] w fun e w' => e = .returned (.bool true) ∧ Below w.heap.size w w' := scriptPlays_any a0 a1 w hW h1
set_option maxRecDepth 100000 in
theorem scriptPlays_lifted (os : Os) (started : os.Started) (H : Type) (enc : TypeId × Value → H) :
    ReturnsInHanded {} Tryz.checked os 9 .any (fun w args => (Rows.scriptPlaysSpec.pre enc Tryz.prog Tryz.f9 [] false w args ∧ laidMetH Tryz.prog Rows.scriptPlaysRow.laid w) ∧ sizedMet enc Tryz.prog Tryz.f9 (OpenSpec.ofChange Rows.scriptPlaysSpec) false w args)
      (Rows.scriptPlaysSpec.post enc Tryz.prog Tryz.f9 false true false false) := by
  refine returnsInHanded_of_change_and (C := Tryz.checked) (X := fun w _ => laidMetH Tryz.prog Rows.scriptPlaysRow.laid w) (fun _ _ _ hh h => h.of_heap hh) own started (by kernel_rfl) Tryz.func9
    (ChangeSpec.witness_shaped (enc := enc) (C := Tryz.checked) (os := os) (X := fun w _ => laidMetH Tryz.prog Rows.scriptPlaysRow.laid w) false (startW os) #[.int .i64 0, .slice none 0 0] 8 rfl (World.shaped_of_RefB (by kernel_rfl) (by kernel_rfl)) (by kernel_rfl) (by kernel_rfl) (by kernel_rfl) (start_metC os _)) ?_
  intro W base args ds gs before hval0 hW _ _ hL _
  have hval : ∀ (j : Nat) t v, Tryz.f9.params[j]? = some t → args[j]? = some v → Value.okWide Tryz.prog W .any base t v := hval0
  have hW' := hW
  obtain ⟨p, q, hA0, hV, rfl, hfz, hnd⟩ := hW
  have hA : DataW.TrodAll enc Tryz.prog W 0 (fun _ => true) true Tryz.f9.params.toList args.toList ds p := hA0
  rw [Tryz.params9] at hA hval
  obtain ⟨v0, v1, d0, d1, p0, p1, rfl, rfl, rfl, h0, h1⟩ := trodAll_two hA
  obtain ⟨rfl, rfl⟩ := trodVars_none hV
  have hlt := fun x hx => hW'.lt x hx
  simp only [List.append_nil, List.mem_append] at hlt
  obtain ⟨a0, rfl, rfl, rfl, wa0⟩ := open_int Tryz.underlying3 (hval 0 3 v0 rfl rfl) h0
  have hl1 : ∀ x ∈ p1, x.block < W.heap.size := fun x hx => hlt x (by first | exact hx | simp [hx])
  have ha1 := argA_of (hval 1 47 v1 rfl rfl) h1 hl1
  have hT : VaW W := vaW_of_laid (laid := Rows.scriptPlaysRow.laid) hL (by kernel_rfl) (List.mem_filter.2 ⟨(by dsimp only [Rows.scriptPlaysRow]; repeat (first | exact List.mem_cons_self | apply List.mem_cons_of_mem)), rfl⟩) (by dsimp only [Rows.scriptPlaysRow]; repeat (first | exact List.mem_cons_self | apply List.mem_cons_of_mem)) (List.mem_filter.2 ⟨(by dsimp only [Rows.scriptPlaysRow]; repeat (first | exact List.mem_cons_self | apply List.mem_cons_of_mem)), rfl⟩)
  clear hA0 hval0
  simp only [List.append_nil] at hW'
  refine (scriptPlays_w a0 v1 W hT (bounds_i64 wa0) ha1).mono fun e W' ⟨he, hw⟩ => ?_
  subst he
  exact ⟨_, rfl, _, _, _, [], _, [], hW', trodAll_mk1 (shut_bool Tryz.underlying4 _), trodAll_mk2 (shut_int Tryz.underlying3 wa0) (Below.trod laid_out (by kernel_rfl) (of_decide_eq_true (by kernel_rfl)) h1 hw hl1), rfl, hw.frame _, fun h => by cases h⟩
theorem scriptPlays_j1 : (Rows.scriptPlaysRow.inPlace == Tryz.pinned.checked.prog.inPlace 9) = true := by kernel_rfl
theorem scriptPlays_j2 : (Rows.scriptPlaysRow.unfollowed == Tryz.pinned.checked.prog.unfollowed 9) = true := by kernel_rfl
theorem scriptPlays_j3 : (Rows.scriptPlaysRow.recurses == Tryz.pinned.checked.prog.recurses 9) = true := by kernel_rfl
theorem scriptPlays_j4 : (Rows.scriptPlaysRow.named == Tryz.pinned.checked.prog.varsNamed 9) = true := by kernel_rfl
theorem scriptPlays_g : false = Rows.scriptPlaysRow.goesBy Tryz.pinned.checked.prog := by kernel_rfl
theorem scriptPlays_n : Tryz.pinned.checked.prog.funcNamed Rows.scriptPlaysRow.func = some 9 := by kernel_rfl
theorem scriptPlays_i : Tryz.f9.isInstance Tryz.pinned.checked.prog Rows.scriptPlaysRow.origin Rows.scriptPlaysRow.targs := of_decide_eq_true (by kernel_rfl)
theorem scriptPlays_k_keys : (Rows.scriptPlaysRow.plainKeys == Tryz.pinned.checked.prog.plainKeys) = true := prg_keys
theorem scriptPlays_k_lifted : (Rows.scriptPlaysRow.lifted == Tryz.pinned.checked.prog.liftsFinal) = true := prg_lifted
theorem scriptPlays_k_make : (Tryz.pinned.checked.prog.make == some Rows.scriptPlaysRow.make) = true := prg_make
theorem scriptPlays_k_pinned : (Rows.scriptPlaysRow.pinned == Rows.scriptPlaysRow.pinnedBy) = true := prg_pinned
theorem scriptPlays_closed : joinedFacts Tryz.pinned.checked.prog 9 Tryz.f9 Rows.scriptPlaysSpec Rows.scriptPlaysRow = true := by
  unfold joinedFacts
  rw [scriptPlays_j1, scriptPlays_j2, scriptPlays_j3, scriptPlays_j4, prg_laidOut, prg_mapsRowed, prg_stops, prg_knobs, prg_heard, prg_enter, scriptPlays_k_keys, scriptPlays_k_lifted, scriptPlays_k_make, scriptPlays_k_pinned]
  kernel_rfl
theorem scriptPlays_said : Rows.ScriptPlaysSaid :=
  OpenClaim.holds_of_wide 9 Tryz.f9 rfl rfl rfl rfl rfl rfl rfl ⟨rfl, rfl, rfl, rfl, rfl⟩ rfl rfl rfl rfl rfl scriptPlays_n Tryz.func9 scriptPlays_closed
    scriptPlays_i (by unfold Func.isWrapper; first | (rw [if_pos (by decide +kernel)]; kernel_rfl) | (rw [if_neg (by decide +kernel)]; exact ⟨rfl, rfl⟩))
    (fun os started H enc _ => scriptPlays_lifted os started H enc)
theorem scriptPlays_plain (f : FuncId) (fn : Func) (hf : Tryz.pinned.checked.prog.funcNamed "caliper/caliperlaw19.ScriptPlays" = some f) (hfn : Tryz.pinned.checked.prog.funcs[f]? = some fn) :
    true = Tryz.pinned.checked.prog.looks [] ∧ ∀ (j : Nat) t, fn.params[j]? = some t → Tryz.pinned.checked.prog.wantsStandIn t = false := by
  obtain rfl : f = 9 := Option.some.inj ((show Tryz.prog.funcNamed "caliper/caliperlaw19.ScriptPlays" = some 9 by kernel_rfl).symm.trans hf) |>.symm
  obtain rfl : fn = Tryz.f9 := (Option.some.inj (Tryz.func9.symm.trans hfn)).symm
  refine ⟨by kernel_rfl, fun j t ht => ?_⟩
  rw [Tryz.params9] at ht
  have hm : t ∈ [3, 47] := by simpa using Array.mem_of_getElem? ht
  have hall : ([3, 47].all fun u => !Tryz.prog.wantsStandIn u) = true := by kernel_rfl
  exact (show Tryz.prog.wantsStandIn t = false by simpa using List.all_eq_true.1 hall t hm)
theorem scriptPlays_card : Rows.ScriptPlaysCardSaid :=
  Claim7.holds_tied_plain_at .later [] _ _ _ _ scriptPlays_said (fun _ h => by cases h) (by kernel_rfl) (fun _ h => by cases h) scriptPlays_row_tie rfl ⟨rfl, rfl⟩ (by kernel_rfl) rfl scriptPlays_plain scriptPlays_g
end Go.Proofs.YtobokaafmcfeaaaGreatDoor
