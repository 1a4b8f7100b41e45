/- What is proved: the statement PrintFulls: whatever the input, the call tells true and the arguments read as they did. Condition: the package-level tables read as the program's text lays them, which the card ties. -/
import Derived.Test.YtncfbleeidjflaaGreatDoorPz37
import Derived.Test.YtncfbleeidjflaaGreatDoorPz48
import Derived.Test.YtncfbleeidjflaaGreatDoorPz47
namespace Go.Proofs.YtncfbleeidjflaaGreatDoor
open Go.ChangeShapes Go.WideShapes Go.ChangeAt Go.RowKit Go.Cal
theorem printFulls_w (a0 : Int) (a1 : Int) (w : World) (hW : PrW w) (_ : -9223372036854775808 ≤ a0 ∧ a0 ≤ 9223372036854775807) (h1 : 0 ≤ a1 ∧ a1 ≤ 18446744073709551615) :
    Calls Tryz.prog 4 #[.int .i64 a0, .int .u64 a1] w fun e w' => e = .returned (.bool true) ∧ Below w.heap.size w w' := printFulls_any a0 a1 h1.1 (by have := h1.2; omega) w hW
set_option maxRecDepth 100000 in
theorem printFulls_lifted (os : Os) (started : os.Started) (H : Type) (enc : TypeId × Value → H) :
    ReturnsInHanded {} Tryz.checked os 4 .any (fun w args => (Rows.printFullsSpec.pre enc Tryz.prog Tryz.f4 [] false w args ∧ laidMetH Tryz.prog Rows.printFullsRow.laid w) ∧ sizedMet enc Tryz.prog Tryz.f4 (OpenSpec.ofChange Rows.printFullsSpec) false w args)
      (Rows.printFullsSpec.post enc Tryz.prog Tryz.f4 false true false false) := by
  refine returnsInHanded_of_change_and (C := Tryz.checked) (X := fun w _ => laidMetH Tryz.prog Rows.printFullsRow.laid w) (fun _ _ _ hh h => h.of_heap hh) own started (by kernel_rfl) Tryz.func4
    (ChangeSpec.witness_shaped (enc := enc) (C := Tryz.checked) (os := os) (X := fun w _ => laidMetH Tryz.prog Rows.printFullsRow.laid w) false (startW os) #[.int .i64 0, .int .u64 0] 8 rfl (World.shaped_of_RefB (by kernel_rfl) (by kernel_rfl)) (by kernel_rfl) (by kernel_rfl) (by kernel_rfl) (start_metS os _)) ?_
  intro W base args ds gs before hval0 hW _ _ hL _
  have hval : ∀ (j : Nat) t v, Tryz.f4.params[j]? = some t → args[j]? = some v → Value.okWide Tryz.prog W .any base t v := hval0
  have hW' := hW
  obtain ⟨p, q, hA0, hV, rfl, hfz, hnd⟩ := hW
  have hA : DataW.TrodAll enc Tryz.prog W 0 (fun _ => true) true Tryz.f4.params.toList args.toList ds p := hA0
  rw [Tryz.params4] at hA hval
  obtain ⟨v0, v1, d0, d1, p0, p1, rfl, rfl, rfl, h0, h1⟩ := trodAll_two hA
  obtain ⟨rfl, rfl⟩ := trodVars_none hV
  have hlt := fun x hx => hW'.lt x hx
  simp only [List.append_nil, List.mem_append] at hlt
  obtain ⟨a0, rfl, rfl, rfl, wa0⟩ := open_int Tryz.underlying3 (hval 0 3 v0 rfl rfl) h0
  obtain ⟨a1, rfl, rfl, rfl, wa1⟩ := open_int Tryz.underlying22 (hval 1 22 v1 rfl rfl) h1
  have hT : PrW W := ⟨vaW_of_laid (laid := Rows.printFullsRow.laid) hL (by kernel_rfl) (List.mem_filter.2 ⟨(by dsimp only [Rows.printFullsRow]; repeat (first | exact List.mem_cons_self | apply List.mem_cons_of_mem)), rfl⟩) (by dsimp only [Rows.printFullsRow]; repeat (first | exact List.mem_cons_self | apply List.mem_cons_of_mem)) (List.mem_filter.2 ⟨(by dsimp only [Rows.printFullsRow]; repeat (first | exact List.mem_cons_self | apply List.mem_cons_of_mem)), rfl⟩), tab10_of_laid (plain_of_laid hL (by kernel_rfl)) (List.mem_filter.2 ⟨(by dsimp only [Rows.printFullsRow]; repeat (first | exact List.mem_cons_self | apply List.mem_cons_of_mem)), rfl⟩), wrdW_of_laid (plain_of_laid hL (by kernel_rfl)) (List.mem_filter.2 ⟨(by dsimp only [Rows.printFullsRow]; repeat (first | exact List.mem_cons_self | apply List.mem_cons_of_mem)), rfl⟩)⟩
  clear hA0 hval0
  simp only [List.append_nil] at hW'
  refine (printFulls_w a0 a1 W hT (bounds_i64 wa0) (bounds_u64 wa1)).mono fun e W' ⟨he, hw⟩ => ?_
  subst he
  exact ⟨_, rfl, _, _, _, [], _, [], hW', trodAll_mk1 (shut_bool Tryz.underlying4 _), trodAll_mk2 (shut_int Tryz.underlying3 wa0) (shut_int Tryz.underlying22 wa1), rfl, hw.frame _, fun h => by cases h⟩
theorem printFulls_said : Rows.PrintFullsSaid :=
  OpenClaim.holds_of_wide 4 Tryz.f4 rfl rfl rfl rfl rfl rfl rfl ⟨rfl, rfl, rfl, rfl, rfl⟩ rfl rfl rfl rfl rfl (by kernel_rfl) Tryz.func4 (by kernel_rfl)
    (of_decide_eq_true (by kernel_rfl)) (by unfold Func.isWrapper; first | (rw [if_pos (by decide +kernel)]; kernel_rfl) | (rw [if_neg (by decide +kernel)]; exact ⟨rfl, rfl⟩))
    (fun os started H enc _ => printFulls_lifted os started H enc)
theorem printFulls_plain (f : FuncId) (fn : Func) (hf : Tryz.pinned.checked.prog.funcNamed "caliper/caliperlaw13.PrintFulls" = some f) (hfn : Tryz.pinned.checked.prog.funcs[f]? = some fn) :
    true = Tryz.pinned.checked.prog.looks [] ∧ ∀ (j : Nat) t, fn.params[j]? = some t → Tryz.pinned.checked.prog.wantsStandIn t = false := by
  obtain rfl : f = 4 := Option.some.inj ((show Tryz.prog.funcNamed "caliper/caliperlaw13.PrintFulls" = some 4 by kernel_rfl).symm.trans hf) |>.symm
  obtain rfl : fn = Tryz.f4 := (Option.some.inj (Tryz.func4.symm.trans hfn)).symm
  refine ⟨by kernel_rfl, fun j t ht => ?_⟩
  rw [Tryz.params4] at ht
  have hm : t ∈ [3, 22] := by simpa using Array.mem_of_getElem? ht
  have hall : ([3, 22].all fun u => !Tryz.prog.wantsStandIn u) = true := by kernel_rfl
  exact (show Tryz.prog.wantsStandIn t = false by simpa using List.all_eq_true.1 hall t hm)
theorem printFulls_card : Rows.PrintFullsCardSaid :=
  Claim7.holds_tied_plain_at .later [] _ _ _ _ printFulls_said (fun _ h => by cases h) (by kernel_rfl) (fun _ h => by cases h) printFulls_row_tie rfl ⟨rfl, rfl⟩ (by kernel_rfl) rfl printFulls_plain (by kernel_rfl)
end Go.Proofs.YtncfbleeidjflaaGreatDoor
