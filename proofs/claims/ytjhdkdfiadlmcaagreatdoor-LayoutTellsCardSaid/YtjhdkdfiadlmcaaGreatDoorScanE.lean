/- The laws of Scan, small steps: what a text is; are two items the same. Conditions: a text's reach. -/
import Derived.Test.YtjhdkdfiadlmcaaGreatDoorScanD
import Derived.Laws.IdiomStrings
namespace Go.Proofs.YtjhdkdfiadlmcaaGreatDoor
open Go.RowKit Go.Cal
/-- What '[]byte(s)' lays, read. -/
theorem rd_bytes (w : World) (l : List UInt8) (n : Nat) (fr : Nat × Nat) : RdB (w.drew.alloc (.cells (bytesRow (strL l) n) 5 fr)) (w.heap.size + 1) (some ⟨w.heap.size, 0, none⟩) l := by
  refine ⟨.inr ⟨_, _, rfl, by omega⟩, fun b off e i hi => ?_⟩
  injection e with e
  injection e with e1 e2
  subst e1; subst e2
  have h1 : (w.drew.alloc (.cells (bytesRow (strL l) n) 5 fr)).cell? ⟨w.drew.heap.size, 0 + i, none⟩ = (bytesRow (strL l) n)[0 + i]? := World.cell?_alloc_mark _ _ _ _ _
  have h2 : w.drew.heap.size = w.heap.size := rfl
  rw [h2] at h1
  rw [h1, Nat.zero_add]
  have hs : i < (strL l).data.size := by show i < l.toArray.size; simpa using hi
  rw [bytesRow_at _ _ _ hs]
  have : (strL l).data[i] = l.getD i 0 := by
    show l.toArray[i]'_ = _
    simp [List.getD_eq_getElem?_getD, hi]
    rfl
  rw [this]
theorem rd_bytes2 (w : World) (o : Obj) (l : List UInt8) (n : Nat) (fr : Nat × Nat) : RdB ((w.alloc o).alloc (.cells (bytesRow (strL l) n) 5 fr)).drew ((w.alloc o).alloc (.cells (bytesRow (strL l) n) 5 fr)).drew.heap.size (some ⟨w.heap.size + 1, 0, none⟩) l := by
  have h := rd_bytes (w.alloc o) l n fr
  have h1 : (w.alloc o).heap.size = w.heap.size + 1 := by simp
  rw [h1] at h
  have h2 : ((w.alloc o).alloc (.cells (bytesRow (strL l) n) 5 fr)).drew.heap.size = w.heap.size + 1 + 1 := by simp
  rw [h2]
  exact h
/-- What of tells. -/
def itemOf (l : List UInt8) : Cal.Item := if (textS l).1 = true then textV 1125899906842624 l else noItem
def OfOut (w : World) (l : List UInt8) (e : Ending) (w' : World) : Prop :=
  ∃ v, e = .returned v ∧ pItem v (itemOf l) w' ∧ Below w.heap.size w w'
/-- What Scan tells, as one. -/
theorem scanOut_item {w w' : World} {l : List UInt8} {e : Ending} (h : ScanOut w l e w') : ∃ (v : Value) (p n : Int), e = .returned (.tuple #[v, .int .i64 p, .int .i64 n]) ∧ pItemN w.heap.size v (itemOf l) w' ∧ Below w.heap.size w w' := by
  obtain ⟨⟨hok, v, rfl, hv⟩ | ⟨hno, rfl⟩, hb⟩ := h
  · refine ⟨v, 0, 0, rfl, ?_, hb⟩
    unfold itemOf
    rw [if_pos hok]
    exact hv
  · refine ⟨_, _, _, rfl, ?_, hb⟩
    unfold itemOf
    rw [if_neg (by simp [hno])]
    exact pItemN.nil _ 0 false 0 0 false _
end Go.Proofs.YtjhdkdfiadlmcaaGreatDoor
