/- What is proved: the statement TopQuire: whatever the input, the call tells true and the arguments read as they did. Condition: the package-level tables read as the program's text lays them, which the card ties. -/
import Derived.Test.YtehpneojiinmdaaGreatDoorTu22
import Derived.Test.YtehpneojiinmdaaGreatDoorTu27
import Derived.Test.YtehpneojiinmdaaGreatDoorTu28
namespace Go.Proofs.YtehpneojiinmdaaGreatDoor
open Go.ChangeShapes Go.WideShapes Go.ChangeAt Go.RowKit Go.Cal
set_option maxRecDepth 100000 in
theorem argH_of {H : Type} {enc : TypeId × Value → H} {W : World} {v : Value} {d : DataW H} {p : List MemPlace} {sp : Nat → Bool} {hd : Bool} {base : Nat}
    (hv : Value.okWide Tryz.prog W .any base 40 v) (h : DataW.Trod enc Tryz.prog W 0 sp hd 40 v d p) (hlt : ∀ x ∈ p, x.block < W.heap.size) : ArgH W v := by
  obtain ⟨a0, len, cap, rfl⟩ := okWide_slice Tryz.underlying40 hv
  obtain ⟨fuel, h⟩ := h
  rcases open_ints Tryz.underlying40 Tryz.underlying47 (by kernel_rfl) h with ⟨h1, _⟩ | ⟨a, len', cap', zs, h1, h2, h3, h4, h5, h6, h7, h8⟩
  · simp [Value.cells] at h1
    obtain ⟨rfl, rfl, rfl⟩ := h1
    exact ⟨none, 0, 0, rfl, Nat.le_refl _, by unfold maxLen; omega, fun i hi => by omega⟩
  · simp [Value.cells] at h1
    obtain ⟨rfl, rfl, rfl⟩ := h1
    have hlz : len ≤ zs.length := by
      rw [h5]; split <;> omega
    have hb : ∀ n ∈ zs, 0 ≤ n ∧ n ≤ 65535 := fun n hn => bounds_u16 (h8 n hn)
    refine ⟨some a, len, cap, rfl, h3, h4, fun i hi => ?_⟩
    obtain ⟨b, off, rfl, hc⟩ := ints_at h7 (by omega)
    have hin : MemPlace.cell b off ∈ p := by
      rw [(Prod.mk.inj h6).2]
      exact List.mem_map.2 ⟨0, List.mem_range.2 (by omega), rfl⟩
    have hi2 : i < zs.length := by omega
    have hz := hb (zs.getD i 0) (by rw [List.getD_eq_getElem?_getD, List.getElem?_eq_getElem hi2]; exact List.getElem_mem _)
    refine ⟨b, off, (zs.getD i 0).toNat, rfl, hlt _ hin, ?_, by omega⟩
    rw [hc i hi2, Int.toNat_of_nonneg hz.1]
set_option maxRecDepth 100000 in
theorem topQuire_lifted (os : Os) (started : os.Started) (H : Type) (enc : TypeId × Value → H) :
    ReturnsInHanded {} Tryz.checked os 4 .any (fun w args => (Rows.topQuireSpec.pre enc Tryz.prog Tryz.f4 [] false w args ∧ laidMetH Tryz.prog Rows.topQuireRow.laid w) ∧ sizedMet enc Tryz.prog Tryz.f4 (OpenSpec.ofChange Rows.topQuireSpec) false w args)
      (Rows.topQuireSpec.post enc Tryz.prog Tryz.f4 false true false false) := by
  refine returnsInHanded_of_change_and (C := Tryz.checked) (X := fun w _ => laidMetH Tryz.prog Rows.topQuireRow.laid w) (fun _ _ _ hh h => h.of_heap hh) own started (by kernel_rfl) Tryz.func4
    (ChangeSpec.witness_shaped (enc := enc) (C := Tryz.checked) (os := os) (X := fun w _ => laidMetH Tryz.prog Rows.topQuireRow.laid w) false (startW os) #[.slice none 0 0] 8 rfl (World.shaped_of_RefB (by kernel_rfl) (by kernel_rfl)) (by kernel_rfl) (by kernel_rfl) (by kernel_rfl) (start_metT os _)) ?_
  intro W base args ds gs before hval0 hW _ _ hL _
  have hval : ∀ (j : Nat) t v, Tryz.f4.params[j]? = some t → args[j]? = some v → Value.okWide Tryz.prog W .any base t v := hval0
  have hW' := hW
  obtain ⟨p, q, hA0, hV, rfl, hfz, hnd⟩ := hW
  have hA : DataW.TrodAll enc Tryz.prog W 0 (fun _ => true) true Tryz.f4.params.toList args.toList ds p := hA0
  rw [Tryz.params4] at hA hval
  obtain ⟨v0, d0, rfl, rfl, h0⟩ := trodAll_one hA
  obtain ⟨rfl, rfl⟩ := trodVars_none hV
  have hlt := fun x hx => hW'.lt x hx
  simp only [List.append_nil] at hlt
  have hl0 : ∀ x ∈ p, x.block < W.heap.size := fun x hx => hlt x (by first | exact hx | simp [hx])
  have ha0 := argH_of (hval 0 40 v0 rfl rfl) h0 hl0
  have hT : PrW W := ⟨vaW_of_laid (laid := Rows.topQuireRow.laid) hL (by kernel_rfl) (List.mem_filter.2 ⟨(by dsimp only [Rows.topQuireRow]; repeat (first | exact List.mem_cons_self | apply List.mem_cons_of_mem)), rfl⟩) (by dsimp only [Rows.topQuireRow]; repeat (first | exact List.mem_cons_self | apply List.mem_cons_of_mem)) (List.mem_filter.2 ⟨(by dsimp only [Rows.topQuireRow]; repeat (first | exact List.mem_cons_self | apply List.mem_cons_of_mem)), rfl⟩), tab10_of_laid (plain_of_laid hL (by kernel_rfl)) (List.mem_filter.2 ⟨(by dsimp only [Rows.topQuireRow]; repeat (first | exact List.mem_cons_self | apply List.mem_cons_of_mem)), rfl⟩), wrdW_of_laid (plain_of_laid hL (by kernel_rfl)) (List.mem_filter.2 ⟨(by dsimp only [Rows.topQuireRow]; repeat (first | exact List.mem_cons_self | apply List.mem_cons_of_mem)), rfl⟩)⟩
  clear hA0 hval0
  simp only [List.append_nil] at hW'
  refine (topQuire_any v0 W hT ha0).mono fun e W' ⟨he, hw⟩ => ?_
  subst he
  exact ⟨_, rfl, _, _, _, [], _, [], hW', trodAll_mk1 (shut_bool Tryz.underlying4 _), trodAll_mk1 (Below.trod laid_out (by kernel_rfl) (of_decide_eq_true (by kernel_rfl)) h0 hw hl0), rfl, hw.frame _, fun h => by cases h⟩
theorem topQuire_said : Rows.TopQuireSaid :=
  OpenClaim.holds_of_wide 4 Tryz.f4 rfl rfl rfl rfl rfl rfl rfl ⟨rfl, rfl, rfl, rfl, rfl⟩ rfl rfl rfl rfl rfl (by kernel_rfl) Tryz.func4 (by kernel_rfl)
    (of_decide_eq_true (by kernel_rfl)) (by unfold Func.isWrapper; first | (rw [if_pos (by decide +kernel)]; kernel_rfl) | (rw [if_neg (by decide +kernel)]; exact ⟨rfl, rfl⟩))
    (fun os started H enc _ => topQuire_lifted os started H enc)
theorem topQuire_plain (f : FuncId) (fn : Func) (hf : Tryz.pinned.checked.prog.funcNamed "caliper/calipertop.TopQuire" = some f) (hfn : Tryz.pinned.checked.prog.funcs[f]? = some fn) :
    true = Tryz.pinned.checked.prog.looks [] ∧ ∀ (j : Nat) t, fn.params[j]? = some t → Tryz.pinned.checked.prog.wantsStandIn t = false := by
  obtain rfl : f = 4 := Option.some.inj ((show Tryz.prog.funcNamed "caliper/calipertop.TopQuire" = some 4 by kernel_rfl).symm.trans hf) |>.symm
  obtain rfl : fn = Tryz.f4 := (Option.some.inj (Tryz.func4.symm.trans hfn)).symm
  refine ⟨by kernel_rfl, fun j t ht => ?_⟩
  rw [Tryz.params4] at ht
  have hm : t ∈ [40] := by simpa using Array.mem_of_getElem? ht
  have hall : ([40].all fun u => !Tryz.prog.wantsStandIn u) = true := by kernel_rfl
  exact (show Tryz.prog.wantsStandIn t = false by simpa using List.all_eq_true.1 hall t hm)
theorem topQuire_card : Rows.TopQuireCardSaid :=
  Claim7.holds_tied_plain_at .later [] _ _ _ _ topQuire_said (fun _ h => by cases h) (by kernel_rfl) (fun _ h => by cases h) topQuire_row_tie rfl ⟨rfl, rfl⟩ (by kernel_rfl) rfl topQuire_plain (by kernel_rfl)
end Go.Proofs.YtehpneojiinmdaaGreatDoor
