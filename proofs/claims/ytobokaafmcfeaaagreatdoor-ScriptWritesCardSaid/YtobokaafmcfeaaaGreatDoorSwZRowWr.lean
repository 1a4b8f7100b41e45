/- What is proved: the statement ScriptWrites: whatever the input, the call tells true and the arguments read as they did. Condition: the package-level tables read as the program's text lays them, which the card ties. -/
import Derived.Test.YtobokaafmcfeaaaGreatDoorSw03
namespace Go.Proofs.YtobokaafmcfeaaaGreatDoor
open Go.ChangeShapes Go.WideShapes Go.ChangeAt Go.RowKit Go.Cal
theorem scriptWrites_w (a0 : Int) (a1 : Int) (a2 : Int) (a3 : Int) (a4 : ByteArray) (w : World) (hW : VaW w) (_ : -9223372036854775808 ≤ a0 ∧ a0 ≤ 9223372036854775807) (_ : -9223372036854775808 ≤ a1 ∧ a1 ≤ 9223372036854775807) (h2 : 0 ≤ a2 ∧ a2 ≤ 18446744073709551615) (h3 : 0 ≤ a3 ∧ a3 ≤ 18446744073709551615) (h4 : a4.size ≤ maxLen) :
    Calls Tryz.prog 8 #[.int .i64 a0, .int .i64 a1, .int .u64 a2, .int .u64 a3, .string a4] w fun e w' => e = .returned (.bool true) ∧ Below w.heap.size w w' := scriptWrites_any a0 a1 a2 a3 a4 w hW h2 h3 h4
set_option maxRecDepth 100000 in
theorem scriptWrites_lifted (os : Os) (started : os.Started) (H : Type) (enc : TypeId × Value → H) :
    ReturnsInHanded {} Tryz.checked os 8 .any (fun w args => (Rows.scriptWritesSpec.pre enc Tryz.prog Tryz.f8 [] false w args ∧ laidMetH Tryz.prog Rows.scriptWritesRow.laid w) ∧ sizedMet enc Tryz.prog Tryz.f8 (OpenSpec.ofChange Rows.scriptWritesSpec) false w args)
      (Rows.scriptWritesSpec.post enc Tryz.prog Tryz.f8 false true false false) := by
  refine returnsInHanded_of_change_and (C := Tryz.checked) (X := fun w _ => laidMetH Tryz.prog Rows.scriptWritesRow.laid w) (fun _ _ _ hh h => h.of_heap hh) own started (by kernel_rfl) Tryz.func8
    (ChangeSpec.witness_shaped (enc := enc) (C := Tryz.checked) (os := os) (X := fun w _ => laidMetH Tryz.prog Rows.scriptWritesRow.laid w) false (startW os) #[.int .i64 0, .int .i64 0, .int .u64 0, .int .u64 0, .string ⟨#[]⟩] 8 rfl (World.shaped_of_RefB (by kernel_rfl) (by kernel_rfl)) (by kernel_rfl) (by kernel_rfl) (by kernel_rfl) (start_metC os _)) ?_
  intro W base args ds gs before hval0 hW _ _ hL _
  have hval : ∀ (j : Nat) t v, Tryz.f8.params[j]? = some t → args[j]? = some v → Value.okWide Tryz.prog W .any base t v := hval0
  have hW' := hW
  obtain ⟨p, q, hA0, hV, rfl, hfz, hnd⟩ := hW
  have hA : DataW.TrodAll enc Tryz.prog W 0 (fun _ => true) true Tryz.f8.params.toList args.toList ds p := hA0
  rw [Tryz.params8] at hA hval
  obtain ⟨v0, v1, v2, v3, v4, d0, d1, d2, d3, d4, p0, p1, p2, p3, p4, rfl, rfl, rfl, h0, h1, h2, h3, h4⟩ := trodAll_five hA
  obtain ⟨rfl, rfl⟩ := trodVars_none hV
  have hlt := fun x hx => hW'.lt x hx
  simp only [List.append_nil, List.mem_append] at hlt
  obtain ⟨a0, rfl, rfl, rfl, wa0⟩ := open_int Tryz.underlying3 (hval 0 3 v0 rfl rfl) h0
  obtain ⟨a1, rfl, rfl, rfl, wa1⟩ := open_int Tryz.underlying3 (hval 1 3 v1 rfl rfl) h1
  obtain ⟨a2, rfl, rfl, rfl, wa2⟩ := open_int Tryz.underlying22 (hval 2 22 v2 rfl rfl) h2
  obtain ⟨a3, rfl, rfl, rfl, wa3⟩ := open_int Tryz.underlying22 (hval 3 22 v3 rfl rfl) h3
  obtain ⟨a4, rfl, rfl, rfl, wa4⟩ := Go.ChangeMaps.open_string Tryz.underlying9 (hval 4 9 v4 rfl rfl) h4
  have hT : VaW W := vaW_of_laid (laid := Rows.scriptWritesRow.laid) hL (by kernel_rfl) (List.mem_filter.2 ⟨(by dsimp only [Rows.scriptWritesRow]; repeat (first | exact List.mem_cons_self | apply List.mem_cons_of_mem)), rfl⟩) (by dsimp only [Rows.scriptWritesRow]; repeat (first | exact List.mem_cons_self | apply List.mem_cons_of_mem)) (List.mem_filter.2 ⟨(by dsimp only [Rows.scriptWritesRow]; repeat (first | exact List.mem_cons_self | apply List.mem_cons_of_mem)), rfl⟩)
  clear hA0 hval0
  simp only [List.append_nil] at hW'
  refine (scriptWrites_w a0 a1 a2 a3 a4 W hT (bounds_i64 wa0) (bounds_i64 wa1) (bounds_u64 wa2) (bounds_u64 wa3) wa4).mono fun e W' ⟨he, hw⟩ => ?_
  subst he
  exact ⟨_, rfl, _, _, _, [], _, [], hW', trodAll_mk1 (shut_bool Tryz.underlying4 _), trodAll_mk5 (shut_int Tryz.underlying3 wa0) (shut_int Tryz.underlying3 wa1) (shut_int Tryz.underlying22 wa2) (shut_int Tryz.underlying22 wa3) (Go.ChangeMaps.shut_string Tryz.underlying9 wa4), rfl, hw.frame _, fun h => by cases h⟩
theorem scriptWrites_j1 : (Rows.scriptWritesRow.inPlace == Tryz.pinned.checked.prog.inPlace 8) = true := by kernel_rfl
theorem scriptWrites_j2 : (Rows.scriptWritesRow.unfollowed == Tryz.pinned.checked.prog.unfollowed 8) = true := by kernel_rfl
theorem scriptWrites_j3 : (Rows.scriptWritesRow.recurses == Tryz.pinned.checked.prog.recurses 8) = true := by kernel_rfl
theorem scriptWrites_j4 : (Rows.scriptWritesRow.named == Tryz.pinned.checked.prog.varsNamed 8) = true := by kernel_rfl
theorem scriptWrites_g : false = Rows.scriptWritesRow.goesBy Tryz.pinned.checked.prog := by kernel_rfl
theorem scriptWrites_n : Tryz.pinned.checked.prog.funcNamed Rows.scriptWritesRow.func = some 8 := by kernel_rfl
theorem scriptWrites_i : Tryz.f8.isInstance Tryz.pinned.checked.prog Rows.scriptWritesRow.origin Rows.scriptWritesRow.targs := of_decide_eq_true (by kernel_rfl)
theorem scriptWrites_k_keys : (Rows.scriptWritesRow.plainKeys == Tryz.pinned.checked.prog.plainKeys) = true := prg_keys
theorem scriptWrites_k_lifted : (Rows.scriptWritesRow.lifted == Tryz.pinned.checked.prog.liftsFinal) = true := prg_lifted
theorem scriptWrites_k_make : (Tryz.pinned.checked.prog.make == some Rows.scriptWritesRow.make) = true := prg_make
theorem scriptWrites_k_pinned : (Rows.scriptWritesRow.pinned == Rows.scriptWritesRow.pinnedBy) = true := prg_pinned
theorem scriptWrites_closed : joinedFacts Tryz.pinned.checked.prog 8 Tryz.f8 Rows.scriptWritesSpec Rows.scriptWritesRow = true := by
  unfold joinedFacts
  rw [scriptWrites_j1, scriptWrites_j2, scriptWrites_j3, scriptWrites_j4, prg_laidOut, prg_mapsRowed, prg_stops, prg_knobs, prg_heard, prg_enter, scriptWrites_k_keys, scriptWrites_k_lifted, scriptWrites_k_make, scriptWrites_k_pinned]
  kernel_rfl
theorem scriptWrites_said : Rows.ScriptWritesSaid :=
  OpenClaim.holds_of_wide 8 Tryz.f8 rfl rfl rfl rfl rfl rfl rfl ⟨rfl, rfl, rfl, rfl, rfl⟩ rfl rfl rfl rfl rfl scriptWrites_n Tryz.func8 scriptWrites_closed
    scriptWrites_i (by unfold Func.isWrapper; first | (rw [if_pos (by decide +kernel)]; kernel_rfl) | (rw [if_neg (by decide +kernel)]; exact ⟨rfl, rfl⟩))
    (fun os started H enc _ => scriptWrites_lifted os started H enc)
theorem scriptWrites_plain (f : FuncId) (fn : Func) (hf : Tryz.pinned.checked.prog.funcNamed "caliper/caliperlaw19.ScriptWrites" = some f) (hfn : Tryz.pinned.checked.prog.funcs[f]? = some fn) :
    true = Tryz.pinned.checked.prog.looks [] ∧ ∀ (j : Nat) t, fn.params[j]? = some t → Tryz.pinned.checked.prog.wantsStandIn t = false := by
  obtain rfl : f = 8 := Option.some.inj ((show Tryz.prog.funcNamed "caliper/caliperlaw19.ScriptWrites" = some 8 by kernel_rfl).symm.trans hf) |>.symm
  obtain rfl : fn = Tryz.f8 := (Option.some.inj (Tryz.func8.symm.trans hfn)).symm
  refine ⟨by kernel_rfl, fun j t ht => ?_⟩
  rw [Tryz.params8] at ht
  have hm : t ∈ [3, 3, 22, 22, 9] := by simpa using Array.mem_of_getElem? ht
  have hall : ([3, 3, 22, 22, 9].all fun u => !Tryz.prog.wantsStandIn u) = true := by kernel_rfl
  exact (show Tryz.prog.wantsStandIn t = false by simpa using List.all_eq_true.1 hall t hm)
theorem scriptWrites_card : Rows.ScriptWritesCardSaid :=
  Claim7.holds_tied_plain_at .later [] _ _ _ _ scriptWrites_said (fun _ h => by cases h) (by kernel_rfl) (fun _ h => by cases h) scriptWrites_row_tie rfl ⟨rfl, rfl⟩ (by kernel_rfl) rfl scriptWrites_plain scriptWrites_g
end Go.Proofs.YtobokaafmcfeaaaGreatDoor
