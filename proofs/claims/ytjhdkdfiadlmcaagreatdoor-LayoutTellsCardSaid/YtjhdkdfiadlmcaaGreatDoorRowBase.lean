/- What the rows of the nat layer share: the tables out of the row's condition, a slice of words out of an argument. Conditions: none. -/
import Derived.Test.YtjhdkdfiadlmcaaGreatDoorNatT
import Derived.Test.YtjhdkdfiadlmcaaGreatDoorCards
import Derived.Test.YtjhdkdfiadlmcaaGreatDoorTie
import Derived.ProofKit
import Derived.LaidMore
import Derived.OpenShut
import Derived.Lay
import Derived.SevenTiedAt
import Derived.Stop.Joined
import Derived.Lib.LaidTab
namespace Go.Proofs.YtjhdkdfiadlmcaaGreatDoor
open Go.ChangeShapes Go.WideShapes Go.ChangeAt Go.RowKit Go.Cal
theorem laid_out : laidOutB Tryz.prog = true := by kernel_rfl
theorem own : ownKnob Tryz.prog.godebug = none := by kernel_rfl
theorem laidVars_mem {P : Program} {w : World} : ∀ {laid : List (String × DataW Unit)} {ps : List MemPlace}, DataW.LaidVars P w laid ps → ∀ {n : String} {d : DataW Unit}, (n, d) ∈ laid →
    ∃ g t cs fuel p, P.globalNamed n = some g ∧ (P.globals[g]?).map (·.type) = some t ∧ w.var? P n = some cs ∧ DataW.trod (fun _ => ()) P w 0 (fun _ => true) false fuel t cs.toList = some (d, p)
  | [], _, _, _, _, h => by simp at h
  | (n', d') :: r, ps, h, n, d, hm => by
    obtain ⟨g, t, cs, fuel, p, q, h1, h2, h3, h4, h5, _⟩ := h
    rcases List.mem_cons.1 hm with e | hm
    · injection e with e1 e2
      subst e1; subst e2
      exact ⟨g, t, cs, fuel, p, h1, h2, h3, h4⟩
    · exact laidVars_mem h5 hm
theorem tab10_of_laid {W : World} {laid : List (String × DataW Unit)} (h : laidMet Tryz.prog laid W) (hm : ("internal/strconv.uint64pow10", Rows.laid_internal_strconv_uint64pow10) ∈ laid) : Tab10 W := by
  obtain ⟨ps, hl, _⟩ := h
  obtain ⟨g, t, cs, fuel, p, h1, h2, h3, h4⟩ := laidVars_mem hl hm
  obtain rfl := Option.some.inj ((show Tryz.prog.globalNamed "internal/strconv.uint64pow10" = some 2 by kernel_rfl).symm.trans h1)
  obtain rfl := Option.some.inj ((show (Tryz.prog.globals[2]?).map (·.type) = some 126 by kernel_rfl).symm.trans h2)
  have h5 := Lib.cells_of_tab (k := .u64) (zs := Lib.pow10Tab) Tryz.underlying126 Tryz.underlying36 (by kernel_rfl) (by kernel_rfl) h4
  unfold Tab10 Lib.TabIs
  rw [h3, ← h5]
set_option maxRecDepth 100000 in
/-- A slice of words that came in. -/
theorem argN_of {H : Type} {enc : TypeId × Value → H} {W : World} {v : Value} {d : DataW H} {p : List MemPlace} {sp : Nat → Bool} {hd : Bool} {base : Nat}
    (hv : Value.okWide Tryz.prog W .any base 23 v) (h : DataW.Trod enc Tryz.prog W 0 sp hd 23 v d p) (hlt : ∀ x ∈ p, x.block < W.heap.size) : ArgN W v := by
  obtain ⟨a0, len, cap, rfl⟩ := okWide_slice Tryz.underlying23 hv
  obtain ⟨fuel, h⟩ := h
  rcases open_ints Tryz.underlying23 Tryz.underlying36 (by kernel_rfl) h with ⟨h1, _⟩ | ⟨a, len', cap', zs, h1, h2, h3, h4, h5, h6, h7, h8⟩
  · simp [Value.cells] at h1
    obtain ⟨rfl, rfl, rfl⟩ := h1
    exact ⟨none, 0, [], rfl, .nil, fun _ => rfl, Nat.le_refl _, by unfold maxLen; omega, fun x hx => by simp at hx⟩
  · simp [Value.cells] at h1
    obtain ⟨rfl, rfl, rfl⟩ := h1
    have hlz : len ≤ zs.length := by
      rw [h5]; split <;> omega
    have hb : ∀ n ∈ zs, 0 ≤ n ∧ n ≤ 18446744073709551615 := fun n hn => bounds_u64 (h8 n hn)
    have hl : ((zs.take len).map Int.toNat).length = len := by rw [List.length_map, List.length_take]; omega
    refine ⟨some a, cap, (zs.take len).map Int.toNat, by rw [hl], ?_, (fun e => by cases e), by rw [hl]; exact h3, h4, fun x hx => ?_⟩
    · by_cases h0 : len = 0
      · subst h0; exact .nil
      · have h7' := h7
        obtain ⟨b, off, rfl, hc⟩ := ints_at h7 (by omega)
        have hin : MemPlace.cell b off ∈ p := by
          rw [(Prod.mk.inj h6).2]
          exact List.mem_map.2 ⟨0, List.mem_range.2 (by omega), rfl⟩
        refine ⟨.inr ⟨b, off, rfl, hlt _ hin⟩, fun b' off' e i hi => ?_⟩
        injection e with e
        injection e with e1 e2
        subst e1; subst e2
        rw [hl] at hi
        rw [hc i (by omega)]
        have hi2 : i < zs.length := by omega
        have hz := (hb (zs.getD i 0) (by rw [List.getD_eq_getElem?_getD, List.getElem?_eq_getElem hi2]; exact List.getElem_mem _)).1
        have e3 : ((zs.take len).map Int.toNat).getD i 0 = (zs.getD i 0).toNat := by
          simp [List.getD_eq_getElem?_getD, hi, hi2]
        rw [e3, Int.toNat_of_nonneg hz]
    · obtain ⟨n, hn, rfl⟩ := List.mem_map.1 hx
      have := hb n (List.mem_of_mem_take hn)
      omega
end Go.Proofs.YtjhdkdfiadlmcaaGreatDoor
