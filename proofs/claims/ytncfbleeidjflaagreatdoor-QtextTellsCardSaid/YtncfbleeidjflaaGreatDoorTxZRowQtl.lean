/- What is proved: the statement QtextTells: whatever the input, the call tells true and the arguments read as they did. Condition: the package-level tables read as the program's text lays them, which the card ties. -/
import Derived.Test.YtncfbleeidjflaaGreatDoorTx13
import Derived.Test.YtncfbleeidjflaaGreatDoorTx30
namespace Go.Proofs.YtncfbleeidjflaaGreatDoor
open Go.ChangeShapes Go.WideShapes Go.ChangeAt Go.RowKit Go.Cal
set_option maxRecDepth 100000 in
theorem qtextTells_lifted (os : Os) (started : os.Started) (H : Type) (enc : TypeId × Value → H) :
    ReturnsInHanded {} Tryz.checked os 6 .any (fun w args => (Rows.qtextTellsSpec.pre enc Tryz.prog Tryz.f6 [] false w args ∧ laidMetH Tryz.prog Rows.qtextTellsRow.laid w) ∧ sizedMet enc Tryz.prog Tryz.f6 (OpenSpec.ofChange Rows.qtextTellsSpec) false w args)
      (Rows.qtextTellsSpec.post enc Tryz.prog Tryz.f6 false true false false) := by
  refine returnsInHanded_of_change_and (C := Tryz.checked) (X := fun w _ => laidMetH Tryz.prog Rows.qtextTellsRow.laid w) (fun _ _ _ hh h => h.of_heap hh) own started (by kernel_rfl) Tryz.func6
    (ChangeSpec.witness_shaped (enc := enc) (C := Tryz.checked) (os := os) (X := fun w _ => laidMetH Tryz.prog Rows.qtextTellsRow.laid w) false (World.laidAll Tryz.prog os Rows.qtextTellsRow.laid) #[.bool false, .slice none 0 0, .int .i64 0] 8 (World.laidAll_os _ _ _)
      (World.shaped_of_ZipB (by kernel_rfl) (by kernel_rfl)) (by kernel_rfl) (by kernel_rfl) (by kernel_rfl)
      (by rw [MakeChecks.laidMetH_plain _ _ _ (by kernel_rfl)]; exact laidMet_laidAll _ (by kernel_rfl) (by kernel_rfl))) ?_
  intro W base args ds gs before hval0 hW _ _ hL _
  have hval : ∀ (j : Nat) t v, Tryz.f6.params[j]? = some t → args[j]? = some v → Value.okWide Tryz.prog W .any base t v := hval0
  have hW' := hW
  obtain ⟨p, q, hA0, hV, rfl, hfz, hnd⟩ := hW
  have hA : DataW.TrodAll enc Tryz.prog W 0 (fun _ => true) true Tryz.f6.params.toList args.toList ds p := hA0
  rw [Tryz.params6] at hA hval
  obtain ⟨v0, v1, v2, d0, d1, d2, p0, p1, p2, rfl, rfl, rfl, h0, h1, h2⟩ := trodAll_three hA
  obtain ⟨rfl, rfl⟩ := trodVars_none hV
  have hlt := fun x hx => hW'.lt x hx
  simp only [List.append_nil, List.mem_append] at hlt
  obtain ⟨a0, rfl, rfl, rfl⟩ := open_bool Tryz.underlying4 (hval 0 4 v0 rfl rfl) h0
  have hl1 : ∀ x ∈ p1, x.block < W.heap.size := fun x hx => hlt x (by first | exact hx | simp [hx])
  have ha1 := argN_of (hval 1 33 v1 rfl rfl) h1 hl1
  obtain ⟨a2, rfl, rfl, rfl, wa2⟩ := open_int Tryz.underlying3 (hval 2 3 v2 rfl rfl) h2
  have hT : Tab10 W := tab10_of_laid (laid := Rows.qtextTellsRow.laid) (by rw [MakeChecks.laidMetH_plain _ _ _ (by kernel_rfl)] at hL; exact hL) (by dsimp only [Rows.qtextTellsRow]; repeat (first | exact List.mem_cons_self | apply List.mem_cons_of_mem))
  clear hA0 hval0
  simp only [List.append_nil] at hW'
  refine (qtextTells_any a0 v1 a2 W hT ha1 (bounds_i64 wa2)).mono fun e W' ⟨he, hw⟩ => ?_
  subst he
  exact ⟨_, rfl, _, _, _, [], _, [], hW', trodAll_mk1 (shut_bool Tryz.underlying4 _), trodAll_mk3 (shut_bool Tryz.underlying4 _) (Below.trod laid_out (by kernel_rfl) (of_decide_eq_true (by kernel_rfl)) h1 hw hl1) (shut_int Tryz.underlying3 wa2), rfl, hw.frame _, fun h => by cases h⟩
theorem qtextTells_said : Rows.QtextTellsSaid :=
  OpenClaim.holds_of_wide 6 Tryz.f6 rfl rfl rfl rfl rfl rfl rfl ⟨rfl, rfl, rfl, rfl, rfl⟩ rfl rfl rfl rfl rfl (by kernel_rfl) Tryz.func6 (by kernel_rfl)
    (of_decide_eq_true (by kernel_rfl)) (by unfold Func.isWrapper; first | (rw [if_pos (by decide +kernel)]; kernel_rfl) | (rw [if_neg (by decide +kernel)]; exact ⟨rfl, rfl⟩))
    (fun os started H enc _ => qtextTells_lifted os started H enc)
theorem qtextTells_plain (f : FuncId) (fn : Func) (hf : Tryz.pinned.checked.prog.funcNamed "caliper/caliperlaw16.QtextTells" = some f) (hfn : Tryz.pinned.checked.prog.funcs[f]? = some fn) :
    true = Tryz.pinned.checked.prog.looks [] ∧ ∀ (j : Nat) t, fn.params[j]? = some t → Tryz.pinned.checked.prog.wantsStandIn t = false := by
  obtain rfl : f = 6 := Option.some.inj ((show Tryz.prog.funcNamed "caliper/caliperlaw16.QtextTells" = some 6 by kernel_rfl).symm.trans hf) |>.symm
  obtain rfl : fn = Tryz.f6 := (Option.some.inj (Tryz.func6.symm.trans hfn)).symm
  refine ⟨by kernel_rfl, fun j t ht => ?_⟩
  rw [Tryz.params6] at ht
  have hm : t ∈ [4, 33, 3] := by simpa using Array.mem_of_getElem? ht
  have hall : ([4, 33, 3].all fun u => !Tryz.prog.wantsStandIn u) = true := by kernel_rfl
  exact (show Tryz.prog.wantsStandIn t = false by simpa using List.all_eq_true.1 hall t hm)
theorem qtextTells_card : Rows.QtextTellsCardSaid :=
  Claim7.holds_tied_plain_at .later [] _ _ _ _ qtextTells_said (fun _ h => by cases h) (by kernel_rfl) (fun _ h => by cases h) qtextTells_row_tie rfl ⟨rfl, rfl⟩ (by kernel_rfl) rfl qtextTells_plain (by kernel_rfl)
end Go.Proofs.YtncfbleeidjflaaGreatDoor
