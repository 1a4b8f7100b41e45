/- A whole struct stored into a block of its own, numbers kept: a law at the operation. Conditions: none. -/
import Derived.Test.YtdlkfnkmdlcekaaGreatDoorFo05
import Derived.Test.YtdlkfnkmdlcekaaGreatDoorFo17
import Derived.Test.YtdlkfnkmdlcekaaGreatDoorFo21
namespace Go.Proofs.YtdlkfnkmdlcekaaGreatDoor
open Go.RowKit Go.Cal
theorem cell_setRow_other {w : World} {g b o : Nat} {cs : Array Value} (h : b ≠ g) : (w.setRow g cs).cell? ⟨b, o, none⟩ = w.cell? ⟨b, o, none⟩ := by
  unfold World.cell? World.setRow
  simp only [Array.getElem?_modify]
  rw [if_neg (fun e => h e.symm)]
theorem IsT.setRow {w : World} {v : Value} {k N g : Nat} {old cs : Array Value} {t : TypeId} (h : IsT w v k N) (hp : pBlk g old t w) (hy : ∀ x ∈ old.toList, ∀ n, x ≠ .int .u64 n) : IsT (w.setRow g cs) v k N := by
  obtain ⟨A, c, zs, h1, h2, h3⟩ := h
  refine ⟨A, c, zs, h1, ⟨?_, fun b off e j hj => ?_⟩, h3⟩
  · rw [show (w.setRow g cs).heap.size = w.heap.size by simp [World.setRow]]; exact h2.place
  · have hc := h2.cells b off e j hj
    by_cases hb : b = g
    · subst hb
      exfalso
      rw [cell_of_row w b _ _ _ _ hp] at hc
      have hm : Value.int .u64 ((zs.getD j 0 : Nat) : Int) ∈ old.toList := by
        have := Array.mem_of_getElem? hc
        simpa using this
      exact hy _ hm _ rfl
    · rw [cell_setRow_other hb]
      exact hc
theorem wpList_store_keep {P : Program} (w : World) {ops : Array Oper} {rest : List Oper} {o : Oper} {a : Act} {Q : Exit → Act → World → Prop}
    (hg : o.guard = none) (t : TypeId) (p x : Operand) (hop : o.op = Op.store t p x) (g : Nat) (cs old : Array Value) (t' : TypeId)
    (hp : a.eval p = .pointer (some ⟨g, 0, none⟩)) (hx : a.eval x = .agg cs) (hb : pBlk g old t' w)
    (hi : (P.info? t).map (·.size) = some cs.size) (ho : old.size = cs.size) (h1 : cs.all (·.oneCell') = true) (hy : ∀ x ∈ old.toList, ∀ n, x ≠ .int .u64 n)
    (hK : ∀ w' : World, pBlk g cs t' w' → Below g w w' → (∀ v k N, IsT w v k N → IsT w' v k N) → wpList P ops Q rest (a.put o.dst undef) w') :
    wpList P ops Q (o :: rest) a w :=
  wpList_plain hg fun _ hK' => wp_store_row t p x hop g cs hp hx t' old hb hi ho h1
    (hK' _ _ (hK (w.setRow g cs) (setRow_heap w g old cs t' _ hb) (below_setRow (Below.refl _ _) (Nat.le_refl _) cs) (fun _ _ _ h => h.setRow hb hy)))
end Go.Proofs.YtdlkfnkmdlcekaaGreatDoor
