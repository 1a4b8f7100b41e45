/- The laws of Scan: what must be in any case. Condition: the table of powers reads as it is laid. -/
import Derived.Test.YtjhdkdfiadlmcaaGreatDoorScanE
import Derived.Lib.SlBytesConst
namespace Go.Proofs.YtjhdkdfiadlmcaaGreatDoor
open Go.RowKit Go.Cal
/-- A block that a walk has made. -/
def pBlk (g : Nat) (cs : Array Value) (t : TypeId) (w : World) : Prop := w.heap[g]? = some (.cells cs t (0, 0))
theorem pBlk_st (g : Nat) (cs : Array Value) (t : TypeId) : Stable (pBlk g cs t) := fun w w' h hb => by
  have hlt := (Array.getElem?_eq_some_iff.1 h).1
  exact (hb.block g hlt).trans h
theorem pBlk_made (w : World) (cs : Array Value) (t : TypeId) : pBlk w.heap.size cs t (w.alloc (.cells cs t)) := heap_alloc_new w _
theorem pBlk.cell {g : Nat} {cs : Array Value} {t : TypeId} {w : World} (h : pBlk g cs t w) (i : Nat) (v : Value) (hv : cs[i]? = some v) : w.cell? ⟨g, i, none⟩ = some v := by
  rw [cell_of_row w g i cs t (0, 0) h, hv]
def lBv (l : List UInt8) : List Value := l.map fun x => Value.int .u8 (x.toNat : Int)
theorem rd_lit (w : World) (l : List UInt8) (cs : Array Value) (h : cs = (lBv l).toArray) (fr : Nat × Nat) : RdB (w.alloc (.cells cs 5 fr)) (w.alloc (.cells cs 5 fr)).heap.size (some ⟨w.heap.size, 0, none⟩) l := by
  refine ⟨.inr ⟨_, _, rfl, by simp⟩, fun b off e i hi => ?_⟩
  injection e with e
  injection e with e1 e2
  subst e1; subst e2
  rw [World.cell?_alloc_mark, Nat.zero_add, h]
  simp [lBv, List.getD_eq_getElem?_getD, hi]
theorem rd_lit2 (w : World) (o : Obj) (l : List UInt8) (cs : Array Value) (h : cs = (lBv l).toArray) (fr : Nat × Nat) : RdB ((w.alloc o).alloc (.cells cs 5 fr)) ((w.alloc o).alloc (.cells cs 5 fr)).heap.size (some ⟨w.heap.size + 1, 0, none⟩) l := by
  have h1 := rd_lit (w.alloc o) l cs h fr
  have hs : (w.alloc o).heap.size = w.heap.size + 1 := by simp
  rw [hs] at h1
  exact h1
/-- Scan, of bytes that are no text. -/
theorem scan_lit (l : List UInt8) (p : Nat) (h : textS l = (false, p)) (hk : l.length ≤ 1000) (w : World) {A : Option Addr} {c : Nat} (hr : RdB w w.heap.size A l) : Calls Tryz.prog 19 #[.slice A l.length c] w fun e w' =>
    e = .returned (.tuple #[.agg #[.int .i64 0, .bool false, .slice none 0 0, .int .i64 0, .int .i64 0, .bool false], .int .i64 p, .int .i64 2]) ∧ Below w.heap.size w w' := by
  refine (scan_any l c w hr (by omega)).mono ?_
  rintro e w' ⟨⟨hok, _⟩ | ⟨_, rfl⟩, hb⟩
  · rw [h] at hok; cases hok
  · rw [h]; exact ⟨rfl, hb⟩
theorem conv_const (w : World) (o : Obj) (C : Array Value) (n c : Nat) : (convert 43 43 (.slice (some ⟨w.heap.size + 1, 0, none⟩) n c)).run Tryz.prog ((w.alloc o).alloc (.cells C 5)) = .ok (.slice (some ⟨w.heap.size + 1, 0, none⟩) n c) ((w.alloc o).alloc (.cells C 5 (C.size, C.size + 1))) := by
  have h := Lib.run_convert_bytes_const (P := Tryz.prog) (w.alloc o) 43 5 C n c sunder_bytes sunder_byte
  have hs : (w.alloc o).heap.size = w.heap.size + 1 := by simp
  rw [hs] at h
  exact h
theorem stext_t {w : World} {v1 : Value} {k1 X : Nat} (hT : Tab10 w) (h : IsN w v1 k1 X) (b1 : k1 ≤ 1048576) :
    Calls Tryz.prog 14 #[v1] w fun e w' => e = .returned (.string ⟨(Lib.decDigits X).toArray⟩) ∧ Below w.heap.size w w' := by
  obtain ⟨A1, c1, z1, rfl, r1, hc1, hl1, d1, rfl⟩ := h
  exact text_any c1 w r1 hc1 (by omega) d1 hT
set_option maxRecDepth 100000 in
theorem field_kind (k : Int) (ng : Bool) (A : Option Addr) (n c : Nat) (x y : Int) (ct : Bool) (w : World) : (Instr.field 40 (.agg #[.int .i64 k, .bool ng, .slice A n c, .int .i64 x, .int .i64 y, .bool ct]) 0).run Tryz.prog w = .ok (.int .i64 k) w := by
  rfl
end Go.Proofs.YtjhdkdfiadlmcaaGreatDoor
