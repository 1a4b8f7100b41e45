/- The laws of Scan, small steps: what a text is; are two items the same. Conditions: a text's reach. -/
import Derived.Test.YtlpcfbilembilaaDoorScanD
import Derived.Laws.IdiomStrings
namespace Go.Proofs.YtlpcfbilembilaaDoor
open Go.RowKit Go.Cal
/-- What '[]byte(s)' lays, read. -/
theorem rd_bytes (w : World) (l : List UInt8) (n : Nat) (fr : Nat × Nat) : RdB (w.drew.alloc (.cells (bytesRow (strL l) n) 5 fr)) (w.heap.size + 1) (some ⟨w.heap.size, 0, none⟩) l := by
  refine ⟨.inr ⟨_, _, rfl, by omega⟩, fun b off e i hi => ?_⟩
  injection e with e
  injection e with e1 e2
  subst e1; subst e2
  have h1 : (w.drew.alloc (.cells (bytesRow (strL l) n) 5 fr)).cell? ⟨w.drew.heap.size, 0 + i, none⟩ = (bytesRow (strL l) n)[0 + i]? := World.cell?_alloc_mark _ _ _ _ _
  have h2 : w.drew.heap.size = w.heap.size := rfl
  rw [h2] at h1
  rw [h1, Nat.zero_add]
  have hs : i < (strL l).data.size := by show i < l.toArray.size; simpa using hi
  rw [bytesRow_at _ _ _ hs]
  have : (strL l).data[i] = l.getD i 0 := by
    show l.toArray[i]'_ = _
    simp [List.getD_eq_getElem?_getD, hi]
    rfl
  rw [this]
theorem rd_bytes2 (w : World) (o : Obj) (l : List UInt8) (n : Nat) (fr : Nat × Nat) : RdB ((w.alloc o).alloc (.cells (bytesRow (strL l) n) 5 fr)).drew ((w.alloc o).alloc (.cells (bytesRow (strL l) n) 5 fr)).drew.heap.size (some ⟨w.heap.size + 1, 0, none⟩) l := by
  have h := rd_bytes (w.alloc o) l n fr
  have h1 : (w.alloc o).heap.size = w.heap.size + 1 := by simp
  rw [h1] at h
  have h2 : ((w.alloc o).alloc (.cells (bytesRow (strL l) n) 5 fr)).drew.heap.size = w.heap.size + 1 + 1 := by simp
  rw [h2]
  exact h
/-- What of tells. -/
def itemOf (l : List UInt8) : Cal.Item := if (textS l).1 = true then textV 1125899906842624 l else noItem
def OfOut (w : World) (l : List UInt8) (e : Ending) (w' : World) : Prop :=
  ∃ v, e = .returned v ∧ pItem v (itemOf l) w' ∧ Below w.heap.size w w'
/-- What Scan tells, as one. -/
theorem scanOut_item {w w' : World} {l : List UInt8} {e : Ending} (h : ScanOut w l e w') : ∃ (v : Value) (p n : Int), e = .returned (.tuple #[v, .int .i64 p, .int .i64 n]) ∧ pItemN w.heap.size v (itemOf l) w' ∧ Below w.heap.size w w' := by
  obtain ⟨⟨hok, v, rfl, hv⟩ | ⟨hno, rfl⟩, hb⟩ := h
  · refine ⟨v, 0, 0, rfl, ?_, hb⟩
    unfold itemOf
    rw [if_pos hok]
    exact hv
  · refine ⟨_, _, _, rfl, ?_, hb⟩
    unfold itemOf
    rw [if_neg (by simp [hno])]
    exact pItemN.nil _ 0 false 0 0 false _
set_option maxRecDepth 100000 in
set_option maxHeartbeats 1000000 in
theorem of_any' (l : List UInt8) (hl : l.length ≤ 1099511627776) (w : World) : Calls Tryd.prog 12 #[.string (strL l)] w (OfOut w l) := by
  have hcv := fun w => run_bytes_of_string (P := Tryd.prog) w 9 22 5 (strL l) sunder_str sunder_bytes sunder_byte
  have hsz := strL_size l
  simp only [hsz] at hcv
  have hbw0 : Below w.heap.size w (w.alloc (.cells #[.int .i64 0, .bool false, .slice none 0 0, .int .i64 0, .int .i64 0, .bool false] 27)) := (Below.refl _ _).alloc (Nat.le_refl _) _
  go_enter Tryd.func12, Tryd.ntmps12
  go_wp2_with fail
  refine (scan_any l _ _ (rd_bytes2 w _ l _ _) hl).mono ?_
  rintro e w2 hout
  obtain ⟨v, p, n, rfl, ⟨A3, c3, zs, rfl, r1, r2, r3, r4, r5, r6⟩, hb⟩ := scanOut_item hout
  have hz0 : w.heap.size + 1 + 1 ≤ w2.heap.size := by have := hb.size; simpa using this
  have hb1 : Below (w.heap.size + 1) (w.alloc (.cells #[.int .i64 0, .bool false, .slice none 0 0, .int .i64 0, .int .i64 0, .bool false] 27)) w2 := by
    refine Below.trans ?_ (hb.mono (by simp))
    exact ((Below.refl _ _).alloc (by simp) _).drew
  have hbw : Below w.heap.size w w2 := hbw0.trans (hb1.mono (by omega))
  have hz5 : w.heap.size < w2.heap.size := by omega
  have f4 : ∀ o, w2.frozen? ⟨w.heap.size, o, none⟩ = false := fun o => by rw [hb1.frozen (p := ⟨w.heap.size, o, none⟩) (by show w.heap.size < _; simp)]; simp
  have c40 : w2.cell? ⟨w.heap.size, 0, none⟩ = some (.int .i64 0) := by rw [hb1.cell (p := ⟨w.heap.size, 0, none⟩) (by show w.heap.size < _; simp)]; simp
  have c41 : w2.cell? ⟨w.heap.size, 1, none⟩ = some (.bool false) := by rw [hb1.cell (p := ⟨w.heap.size, 1, none⟩) (by show w.heap.size < _; simp)]; simp
  have c42 : w2.cell? ⟨w.heap.size, 2, none⟩ = some (.slice none 0 0) := by rw [hb1.cell (p := ⟨w.heap.size, 2, none⟩) (by show w.heap.size < _; simp)]; simp
  have c43 : w2.cell? ⟨w.heap.size, 3, none⟩ = some (.int .i64 0) := by rw [hb1.cell (p := ⟨w.heap.size, 3, none⟩) (by show w.heap.size < _; simp)]; simp
  have c44 : w2.cell? ⟨w.heap.size, 4, none⟩ = some (.int .i64 0) := by rw [hb1.cell (p := ⟨w.heap.size, 4, none⟩) (by show w.heap.size < _; simp)]; simp
  have c45 : w2.cell? ⟨w.heap.size, 5, none⟩ = some (.bool false) := by rw [hb1.cell (p := ⟨w.heap.size, 5, none⟩) (by show w.heap.size < _; simp)]; simp
  obtain ⟨it, hit⟩ : ∃ x, itemOf l = x := ⟨_, rfl⟩
  rw [hit] at r5 ⊢
  replace hit := Lib.hid hit
  clear hb hb1 hout hcv
  go_wp2
  refine bodyPost_ret (v := .agg #[.int .i64 (it.kind : Nat), .bool it.neg, .slice A3 zs.length c3, .int .i64 it.k, .int .i64 it.big, .bool it.cut]) (by simp [results, Tryd.results12, go_sem, c40, c41, c42, c43, c44, c45, hz5]) rfl ⟨_, rfl, ?_, ?_⟩
  · rw [hit.out]
    refine ⟨_, rfl, A3, c3, zs, rfl, ?_, r2, r3, r4, r5⟩
    refine RdU.more (B := w2.heap.size) (RdU.alloc ?_ (by simp) _) (by simp)
    iterate 6 (refine RdU.apart ?_ r6 (by show w.heap.size < _; simp; omega))
    exact r1
  · refine Below.alloc ?_ (by simp; omega) _
    iterate 6 (refine Below.setCell ?_ (by exact Nat.le_refl _) _)
    exact hbw
/-- Two items that are one. -/
theorem same_any {v1 v2 : Value} {it : Cal.Item} (w : World) (h1 : pItem v1 it w) (h2 : pItem v2 it w) : Calls Tryd.prog 14 #[v1, v2] w fun e w' => e = .returned (.bool true) ∧ Below w.heap.size w w' := by
  obtain ⟨d1, rfl, h1⟩ := h1
  obtain ⟨d2, rfl, h2⟩ := h2
  have hb : Below w.heap.size w ((w.alloc (.cells #[.int .i64 (it.kind : Nat), .bool it.neg, d1, .int .i64 it.k, .int .i64 it.big, .bool it.cut] 27)).alloc (.cells #[.int .i64 (it.kind : Nat), .bool it.neg, d2, .int .i64 it.k, .int .i64 it.big, .bool it.cut] 27)) := ((Below.refl _ _).alloc (Nat.le_refl _) _).alloc (by simp) _
  have hc := cmp_t (h1.below hb).isN (h2.below hb).isN (by decide) (by decide)
  rw [cmpV_eq rfl] at hc
  obtain ⟨A1, c1, z1, rfl, g1⟩ := h1
  obtain ⟨A2, c2, z2, rfl, g2⟩ := h2
  replace hc := Lib.hid hc
  clear g1 g2
  go_enter Tryd.func14, Tryd.ntmps14
  go_wp2_with fail
  refine hc.out.mono ?_
  rintro e w2 ⟨rfl, hb2⟩
  obtain ⟨hcc, hff⟩ := bcell hb2
  simp only [ssize_alloc1] at hcc hff
  have a3 : w2.cell? ⟨w.heap.size, 3, none⟩ = some (.int .i64 it.k) := by rw [hcc _ _ (by omega)]; simp
  have a4 : w2.cell? ⟨w.heap.size, 4, none⟩ = some (.int .i64 it.big) := by rw [hcc _ _ (by omega)]; simp
  have a5 : w2.cell? ⟨w.heap.size, 5, none⟩ = some (.bool it.cut) := by rw [hcc _ _ (by omega)]; simp
  have b3 : w2.cell? ⟨w.heap.size + 1, 3, none⟩ = some (.int .i64 it.k) := by rw [hcc _ _ (by omega)]; simp
  have b4 : w2.cell? ⟨w.heap.size + 1, 4, none⟩ = some (.int .i64 it.big) := by rw [hcc _ _ (by omega)]; simp
  have b5 : w2.cell? ⟨w.heap.size + 1, 5, none⟩ = some (.bool it.cut) := by rw [hcc _ _ (by omega)]; simp
  have hfin := chain hb hb2
  clear hcc hff hb2
  go_wp2
  go_ret
  exact ⟨rfl, hfin⟩
end Go.Proofs.YtlpcfbilembilaaDoor
