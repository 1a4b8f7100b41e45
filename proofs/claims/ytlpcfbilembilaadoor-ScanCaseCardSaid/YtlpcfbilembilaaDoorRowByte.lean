/- A slice of bytes out of an argument. Conditions: none. -/
import Derived.Test.YtlpcfbilembilaaDoorRowBase
import Derived.Test.YtlpcfbilembilaaDoorScanG
namespace Go.Proofs.YtlpcfbilembilaaDoor
open Go.ChangeShapes Go.WideShapes Go.ChangeAt Go.RowKit Go.Cal
set_option maxRecDepth 100000 in
theorem argB_of {H : Type} {enc : TypeId × Value → H} {W : World} {v : Value} {d : DataW H} {p : List MemPlace} {sp : Nat → Bool} {hd : Bool} {base : Nat}
    (hv : Value.okWide Tryd.prog W .any base 22 v) (h : DataW.Trod enc Tryd.prog W 0 sp hd 22 v d p) (hlt : ∀ x ∈ p, x.block < W.heap.size) : ArgB W v := by
  obtain ⟨a0, len, cap, rfl⟩ := okWide_slice Tryd.underlying22 hv
  obtain ⟨fuel, h⟩ := h
  rcases open_ints Tryd.underlying22 Tryd.underlying5 (by kernel_rfl) h with ⟨h1, _⟩ | ⟨a, len', cap', zs, h1, h2, h3, h4, h5, h6, h7, h8⟩
  · simp [Value.cells] at h1
    obtain ⟨rfl, rfl, rfl⟩ := h1
    exact ⟨none, 0, [], rfl, ⟨.inl rfl, fun _ _ _ i hi => by simp at hi⟩, fun _ => rfl, Nat.le_refl _, by unfold maxLen; omega⟩
  · simp [Value.cells] at h1
    obtain ⟨rfl, rfl, rfl⟩ := h1
    have hlz : len ≤ zs.length := by
      rw [h5]; split <;> omega
    have hb : ∀ n ∈ zs, 0 ≤ n ∧ n ≤ 255 := fun n hn => bounds_u8 (h8 n hn)
    have hl : ((zs.take len).map fun n => UInt8.ofNat n.toNat).length = len := by rw [List.length_map, List.length_take]; omega
    refine ⟨some a, cap, (zs.take len).map fun n => UInt8.ofNat n.toNat, by rw [hl], ?_, (fun e => by cases e), by rw [hl]; exact h3, h4⟩
    by_cases h0 : len = 0
    · subst h0; exact ⟨.inl (by simp), fun _ _ _ i hi => by simp at hi⟩
    · obtain ⟨b, off, rfl, hc⟩ := ints_at h7 (by omega)
      have hin : MemPlace.cell b off ∈ p := by
        rw [(Prod.mk.inj h6).2]
        exact List.mem_map.2 ⟨0, List.mem_range.2 (by omega), rfl⟩
      refine ⟨.inr ⟨b, off, rfl, hlt _ hin⟩, fun b' off' e i hi => ?_⟩
      injection e with e
      injection e with e1 e2
      subst e1; subst e2
      rw [hl] at hi
      rw [hc i (by omega)]
      have hi2 : i < zs.length := by omega
      have hz := hb (zs.getD i 0) (by rw [List.getD_eq_getElem?_getD, List.getElem?_eq_getElem hi2]; exact List.getElem_mem _)
      have e3 : ((zs.take len).map fun n => UInt8.ofNat n.toNat).getD i 0 = UInt8.ofNat (zs.getD i 0).toNat := by
        simp [List.getD_eq_getElem?_getD, hi, hi2]
      rw [e3, UInt8.toNat_ofNat']
      congr 2
      omega
end Go.Proofs.YtlpcfbilembilaaDoor
