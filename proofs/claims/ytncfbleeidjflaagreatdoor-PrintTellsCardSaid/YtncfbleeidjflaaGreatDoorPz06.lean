/- A whole struct stored into a block of its own: a law at the operation. Conditions: none. -/
import Derived.Laws.Tables
import Derived.Laws.CopyOwn
import Derived.Tactics
namespace Go.Cal
open Go.RowKit
theorem wpList_store_whole {P : Program} (w : World) {ops : Array Oper} {rest : List Oper} {o : Oper} {a : Act} {Q : Exit → Act → World → Prop}
    (hg : o.guard = none) (t : TypeId) (p x : Operand) (hop : o.op = Op.store t p x) (g : Nat) (cs old : Array Value) (t' : TypeId)
    (hp : a.eval p = .pointer (some ⟨g, 0, none⟩)) (hx : a.eval x = .agg cs) (hb : w.heap[g]? = some (.cells old t' (0, 0)))
    (hi : (P.info? t).map (·.size) = some cs.size) (ho : old.size = cs.size) (h1 : cs.all (·.oneCell') = true)
    (hK : ∀ w' : World, w'.heap[g]? = some (.cells cs t' (0, 0)) → Below g w w' → w'.heap.size = w.heap.size → wpList P ops Q rest (a.put o.dst undef) w') :
    wpList P ops Q (o :: rest) a w :=
  wpList_plain hg fun _ hK' => wp_store_row t p x hop g cs hp hx t' old hb hi ho h1
    (hK' _ _ (hK (w.setRow g cs) (setRow_heap w g old cs t' _ hb) (below_setRow (Below.refl _ _) (Nat.le_refl _) cs) (by simp [World.setRow])))
end Go.Cal
