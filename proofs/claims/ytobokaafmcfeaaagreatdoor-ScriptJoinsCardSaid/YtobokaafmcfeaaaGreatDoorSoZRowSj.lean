/- What is proved: the statement ScriptJoins: whatever the input, the call tells true and the arguments read as they did. Condition: the package-level tables read as the program's text lays them, which the card ties. -/
import Derived.Test.YtobokaafmcfeaaaGreatDoorSo01
namespace Go.Proofs.YtobokaafmcfeaaaGreatDoor
open Go.ChangeShapes Go.WideShapes Go.ChangeAt Go.RowKit Go.Cal
theorem scriptJoins_w (a0 : Int) (a1 : Value) (a2 : Value) (w : World) (hW : VaW w) (_ : -9223372036854775808 ≤ a0 ∧ a0 ≤ 9223372036854775807) (h1 : ArgB w a1) (h2 : ArgB w a2) :
    Calls Tryz.prog 10 #[.int .i64 a0, a1, a2] w fun e w' => e = .returned (.bool true) ∧ Below w.heap.size w w' := scriptJoins_any a0 a1 a2 w hW h1 h2
set_option maxRecDepth 100000 in
theorem scriptJoins_lifted (os : Os) (started : os.Started) (H : Type) (enc : TypeId × Value → H) :
    ReturnsInHanded {} Tryz.checked os 10 .any (fun w args => (Rows.scriptJoinsSpec.pre enc Tryz.prog Tryz.f10 [] false w args ∧ laidMetH Tryz.prog Rows.scriptJoinsRow.laid w) ∧ sizedMet enc Tryz.prog Tryz.f10 (OpenSpec.ofChange Rows.scriptJoinsSpec) false w args)
      (Rows.scriptJoinsSpec.post enc Tryz.prog Tryz.f10 false true false false) := by
  refine returnsInHanded_of_change_and (C := Tryz.checked) (X := fun w _ => laidMetH Tryz.prog Rows.scriptJoinsRow.laid w) (fun _ _ _ hh h => h.of_heap hh) own started (by kernel_rfl) Tryz.func10
    (ChangeSpec.witness_shaped (enc := enc) (C := Tryz.checked) (os := os) (X := fun w _ => laidMetH Tryz.prog Rows.scriptJoinsRow.laid w) false (startW os) #[.int .i64 0, .slice none 0 0, .slice none 0 0] 8 rfl (World.shaped_of_RefB (by kernel_rfl) (by kernel_rfl)) (by kernel_rfl) (by kernel_rfl) (by kernel_rfl) (start_metC os _)) ?_
  intro W base args ds gs before hval0 hW _ _ hL _
  have hval : ∀ (j : Nat) t v, Tryz.f10.params[j]? = some t → args[j]? = some v → Value.okWide Tryz.prog W .any base t v := hval0
  have hW' := hW
  obtain ⟨p, q, hA0, hV, rfl, hfz, hnd⟩ := hW
  have hA : DataW.TrodAll enc Tryz.prog W 0 (fun _ => true) true Tryz.f10.params.toList args.toList ds p := hA0
  rw [Tryz.params10] at hA hval
  obtain ⟨v0, v1, v2, d0, d1, d2, p0, p1, p2, rfl, rfl, rfl, h0, h1, h2⟩ := trodAll_three hA
  obtain ⟨rfl, rfl⟩ := trodVars_none hV
  have hlt := fun x hx => hW'.lt x hx
  simp only [List.append_nil, List.mem_append] at hlt
  obtain ⟨a0, rfl, rfl, rfl, wa0⟩ := open_int Tryz.underlying3 (hval 0 3 v0 rfl rfl) h0
  have hl1 : ∀ x ∈ p1, x.block < W.heap.size := fun x hx => hlt x (by first | exact hx | simp [hx])
  have ha1 := argB_of (hval 1 42 v1 rfl rfl) h1 hl1
  have hl2 : ∀ x ∈ p2, x.block < W.heap.size := fun x hx => hlt x (by first | exact hx | simp [hx])
  have ha2 := argB_of (hval 2 42 v2 rfl rfl) h2 hl2
  have hT : VaW W := vaW_of_laid (laid := Rows.scriptJoinsRow.laid) hL (by kernel_rfl) (List.mem_filter.2 ⟨(by dsimp only [Rows.scriptJoinsRow]; repeat (first | exact List.mem_cons_self | apply List.mem_cons_of_mem)), rfl⟩) (by dsimp only [Rows.scriptJoinsRow]; repeat (first | exact List.mem_cons_self | apply List.mem_cons_of_mem)) (List.mem_filter.2 ⟨(by dsimp only [Rows.scriptJoinsRow]; repeat (first | exact List.mem_cons_self | apply List.mem_cons_of_mem)), rfl⟩)
  clear hA0 hval0
  simp only [List.append_nil] at hW'
  refine (scriptJoins_w a0 v1 v2 W hT (bounds_i64 wa0) ha1 ha2).mono fun e W' ⟨he, hw⟩ => ?_
  subst he
  exact ⟨_, rfl, _, _, _, [], _, [], hW', trodAll_mk1 (shut_bool Tryz.underlying4 _), trodAll_mk3 (shut_int Tryz.underlying3 wa0) (Below.trod laid_out (by kernel_rfl) (of_decide_eq_true (by kernel_rfl)) h1 hw hl1) (Below.trod laid_out (by kernel_rfl) (of_decide_eq_true (by kernel_rfl)) h2 hw hl2), rfl, hw.frame _, fun h => by cases h⟩
theorem scriptJoins_j1 : (Rows.scriptJoinsRow.inPlace == Tryz.pinned.checked.prog.inPlace 10) = true := by kernel_rfl
theorem scriptJoins_j2 : (Rows.scriptJoinsRow.unfollowed == Tryz.pinned.checked.prog.unfollowed 10) = true := by kernel_rfl
theorem scriptJoins_j3 : (Rows.scriptJoinsRow.recurses == Tryz.pinned.checked.prog.recurses 10) = true := by kernel_rfl
theorem scriptJoins_j4 : (Rows.scriptJoinsRow.named == Tryz.pinned.checked.prog.varsNamed 10) = true := by kernel_rfl
theorem scriptJoins_g : false = Rows.scriptJoinsRow.goesBy Tryz.pinned.checked.prog := by kernel_rfl
theorem scriptJoins_n : Tryz.pinned.checked.prog.funcNamed Rows.scriptJoinsRow.func = some 10 := by kernel_rfl
theorem scriptJoins_i : Tryz.f10.isInstance Tryz.pinned.checked.prog Rows.scriptJoinsRow.origin Rows.scriptJoinsRow.targs := of_decide_eq_true (by kernel_rfl)
theorem scriptJoins_k_keys : (Rows.scriptJoinsRow.plainKeys == Tryz.pinned.checked.prog.plainKeys) = true := prg_keys
theorem scriptJoins_k_lifted : (Rows.scriptJoinsRow.lifted == Tryz.pinned.checked.prog.liftsFinal) = true := prg_lifted
theorem scriptJoins_k_make : (Tryz.pinned.checked.prog.make == some Rows.scriptJoinsRow.make) = true := prg_make
theorem scriptJoins_k_pinned : (Rows.scriptJoinsRow.pinned == Rows.scriptJoinsRow.pinnedBy) = true := prg_pinned
theorem scriptJoins_closed : joinedFacts Tryz.pinned.checked.prog 10 Tryz.f10 Rows.scriptJoinsSpec Rows.scriptJoinsRow = true := by
  unfold joinedFacts
  rw [scriptJoins_j1, scriptJoins_j2, scriptJoins_j3, scriptJoins_j4, prg_laidOut, prg_mapsRowed, prg_stops, prg_knobs, prg_heard, prg_enter, scriptJoins_k_keys, scriptJoins_k_lifted, scriptJoins_k_make, scriptJoins_k_pinned]
  kernel_rfl
theorem scriptJoins_said : Rows.ScriptJoinsSaid :=
  OpenClaim.holds_of_wide 10 Tryz.f10 rfl rfl rfl rfl rfl rfl rfl ⟨rfl, rfl, rfl, rfl, rfl⟩ rfl rfl rfl rfl rfl scriptJoins_n Tryz.func10 scriptJoins_closed
    scriptJoins_i (by unfold Func.isWrapper; first | (rw [if_pos (by decide +kernel)]; kernel_rfl) | (rw [if_neg (by decide +kernel)]; exact ⟨rfl, rfl⟩))
    (fun os started H enc _ => scriptJoins_lifted os started H enc)
theorem scriptJoins_plain (f : FuncId) (fn : Func) (hf : Tryz.pinned.checked.prog.funcNamed "caliper/caliperlaw19.ScriptJoins" = some f) (hfn : Tryz.pinned.checked.prog.funcs[f]? = some fn) :
    true = Tryz.pinned.checked.prog.looks [] ∧ ∀ (j : Nat) t, fn.params[j]? = some t → Tryz.pinned.checked.prog.wantsStandIn t = false := by
  obtain rfl : f = 10 := Option.some.inj ((show Tryz.prog.funcNamed "caliper/caliperlaw19.ScriptJoins" = some 10 by kernel_rfl).symm.trans hf) |>.symm
  obtain rfl : fn = Tryz.f10 := (Option.some.inj (Tryz.func10.symm.trans hfn)).symm
  refine ⟨by kernel_rfl, fun j t ht => ?_⟩
  rw [Tryz.params10] at ht
  have hm : t ∈ [3, 42, 42] := by simpa using Array.mem_of_getElem? ht
  have hall : ([3, 42, 42].all fun u => !Tryz.prog.wantsStandIn u) = true := by kernel_rfl
  exact (show Tryz.prog.wantsStandIn t = false by simpa using List.all_eq_true.1 hall t hm)
theorem scriptJoins_card : Rows.ScriptJoinsCardSaid :=
  Claim7.holds_tied_plain_at .later [] _ _ _ _ scriptJoins_said (fun _ h => by cases h) (by kernel_rfl) (fun _ h => by cases h) scriptJoins_row_tie rfl ⟨rfl, rfl⟩ (by kernel_rfl) rfl scriptJoins_plain scriptJoins_g
end Go.Proofs.YtobokaafmcfeaaaGreatDoor
