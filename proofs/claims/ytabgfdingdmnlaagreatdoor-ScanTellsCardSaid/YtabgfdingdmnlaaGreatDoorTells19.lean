/- The laws of Scan, small steps: what a text is; are two items the same. Conditions: a text's reach. -/
/- The laws of Scan: what must be in any case. Condition: the table of powers reads as it is laid. -/
import Derived.Test.YtabgfdingdmnlaaGreatDoorTells18
import Derived.Laws.IdiomStrings
import Derived.Lib.SlBytesConst
namespace Go.Proofs.YtabgfdingdmnlaaGreatDoor
open Go.RowKit Go.Cal
/-- What '[]byte(s)' lays, read. -/
theorem rd_bytes (w : World) (l : List UInt8) (n : Nat) (fr : Nat × Nat) : RdB (w.drew.alloc (.cells (bytesRow (strL l) n) 5 fr)) (w.heap.size + 1) (some ⟨w.heap.size, 0, none⟩) l := by
  refine ⟨.inr ⟨_, _, rfl, by omega⟩, fun b off e i hi => ?_⟩
  injection e with e
  injection e with e1 e2
  subst e1; subst e2
  have h1 : (w.drew.alloc (.cells (bytesRow (strL l) n) 5 fr)).cell? ⟨w.drew.heap.size, 0 + i, none⟩ = (bytesRow (strL l) n)[0 + i]? := World.cell?_alloc_mark _ _ _ _ _
  have h2 : w.drew.heap.size = w.heap.size := rfl
  rw [h2] at h1
  rw [h1, Nat.zero_add]
  have hs : i < (strL l).data.size := by show i < l.toArray.size; simpa using hi
  rw [bytesRow_at _ _ _ hs]
  have : (strL l).data[i] = l.getD i 0 := by
    show l.toArray[i]'_ = _
    simp [List.getD_eq_getElem?_getD, hi]
    rfl
  rw [this]
theorem rd_bytes2 (w : World) (o : Obj) (l : List UInt8) (n : Nat) (fr : Nat × Nat) : RdB ((w.alloc o).alloc (.cells (bytesRow (strL l) n) 5 fr)).drew ((w.alloc o).alloc (.cells (bytesRow (strL l) n) 5 fr)).drew.heap.size (some ⟨w.heap.size + 1, 0, none⟩) l := by
  have h := rd_bytes (w.alloc o) l n fr
  have h1 : (w.alloc o).heap.size = w.heap.size + 1 := by simp
  rw [h1] at h
  have h2 : ((w.alloc o).alloc (.cells (bytesRow (strL l) n) 5 fr)).drew.heap.size = w.heap.size + 1 + 1 := by simp
  rw [h2]
  exact h
/-- What of tells. -/
def itemOf (l : List UInt8) : Cal.Item := if (textS l).1 = true then textV 1125899906842624 l else noItem
def OfOut (w : World) (l : List UInt8) (e : Ending) (w' : World) : Prop :=
  ∃ v, e = .returned v ∧ pItem v (itemOf l) w' ∧ Below w.heap.size w w'
/-- What Scan tells, as one. -/
theorem scanOut_item {w w' : World} {l : List UInt8} {e : Ending} (h : ScanOut w l e w') : ∃ (v : Value) (p n : Int), e = .returned (.tuple #[v, .int .i64 p, .int .i64 n]) ∧ pItemN w.heap.size v (itemOf l) w' ∧ Below w.heap.size w w' := by
  obtain ⟨⟨hok, v, rfl, hv⟩ | ⟨hno, rfl⟩, hb⟩ := h
  · refine ⟨v, 0, 0, rfl, ?_, hb⟩
    unfold itemOf
    rw [if_pos hok]
    exact hv
  · refine ⟨_, _, _, rfl, ?_, hb⟩
    unfold itemOf
    rw [if_neg (by simp [hno])]
    exact pItemN.nil _ 0 false 0 0 false _
set_option maxRecDepth 100000 in
set_option maxHeartbeats 1000000 in
theorem of_any' (l : List UInt8) (hl : l.length ≤ 1099511627776) (w : World) : Calls Tryz.prog 8 #[.string (strL l)] w (OfOut w l) := by
  have hcv := fun w => run_bytes_of_string (P := Tryz.prog) w 9 22 5 (strL l) sunder_str sunder_bytes sunder_byte
  have hsz := strL_size l
  simp only [hsz] at hcv
  have hbw0 : Below w.heap.size w (w.alloc (.cells #[.int .i64 0, .bool false, .slice none 0 0, .int .i64 0, .int .i64 0, .bool false] 27)) := (Below.refl _ _).alloc (Nat.le_refl _) _
  go_enter Tryz.func8, Tryz.ntmps8
  go_wp2_with fail
  refine (scan_any l _ _ (rd_bytes2 w _ l _ _) hl).mono ?_
  rintro e w2 hout
  obtain ⟨v, p, n, rfl, ⟨A3, c3, zs, rfl, r1, r2, r3, r4, r5, r6⟩, hb⟩ := scanOut_item hout
  have hz0 : w.heap.size + 1 + 1 ≤ w2.heap.size := by have := hb.size; simpa using this
  have hb1 : Below (w.heap.size + 1) (w.alloc (.cells #[.int .i64 0, .bool false, .slice none 0 0, .int .i64 0, .int .i64 0, .bool false] 27)) w2 := by
    refine Below.trans ?_ (hb.mono (by simp))
    exact ((Below.refl _ _).alloc (by simp) _).drew
  have hbw : Below w.heap.size w w2 := hbw0.trans (hb1.mono (by omega))
  have hz5 : w.heap.size < w2.heap.size := by omega
  have f4 : ∀ o, w2.frozen? ⟨w.heap.size, o, none⟩ = false := fun o => by rw [hb1.frozen (p := ⟨w.heap.size, o, none⟩) (by show w.heap.size < _; simp)]; simp
  have c40 : w2.cell? ⟨w.heap.size, 0, none⟩ = some (.int .i64 0) := by rw [hb1.cell (p := ⟨w.heap.size, 0, none⟩) (by show w.heap.size < _; simp)]; simp
  have c41 : w2.cell? ⟨w.heap.size, 1, none⟩ = some (.bool false) := by rw [hb1.cell (p := ⟨w.heap.size, 1, none⟩) (by show w.heap.size < _; simp)]; simp
  have c42 : w2.cell? ⟨w.heap.size, 2, none⟩ = some (.slice none 0 0) := by rw [hb1.cell (p := ⟨w.heap.size, 2, none⟩) (by show w.heap.size < _; simp)]; simp
  have c43 : w2.cell? ⟨w.heap.size, 3, none⟩ = some (.int .i64 0) := by rw [hb1.cell (p := ⟨w.heap.size, 3, none⟩) (by show w.heap.size < _; simp)]; simp
  have c44 : w2.cell? ⟨w.heap.size, 4, none⟩ = some (.int .i64 0) := by rw [hb1.cell (p := ⟨w.heap.size, 4, none⟩) (by show w.heap.size < _; simp)]; simp
  have c45 : w2.cell? ⟨w.heap.size, 5, none⟩ = some (.bool false) := by rw [hb1.cell (p := ⟨w.heap.size, 5, none⟩) (by show w.heap.size < _; simp)]; simp
  obtain ⟨it, hit⟩ : ∃ x, itemOf l = x := ⟨_, rfl⟩
  rw [hit] at r5 ⊢
  replace hit := Lib.hid hit
  clear hb hb1 hout hcv
  go_wp2
  refine bodyPost_ret (v := .agg #[.int .i64 (it.kind : Nat), .bool it.neg, .slice A3 zs.length c3, .int .i64 it.k, .int .i64 it.big, .bool it.cut]) (by simp [results, Tryz.results8, go_sem, c40, c41, c42, c43, c44, c45, hz5]) rfl ⟨_, rfl, ?_, ?_⟩
  · rw [hit.out]
    refine ⟨_, rfl, A3, c3, zs, rfl, ?_, r2, r3, r4, r5⟩
    refine RdU.more (B := w2.heap.size) (RdU.alloc ?_ (by simp) _) (by simp)
    iterate 6 (refine RdU.apart ?_ r6 (by show w.heap.size < _; simp; omega))
    exact r1
  · refine Below.alloc ?_ (by simp; omega) _
    iterate 6 (refine Below.setCell ?_ (by exact Nat.le_refl _) _)
    exact hbw
/-- Two items that are one. -/
theorem same_any {v1 v2 : Value} {it : Cal.Item} (w : World) (h1 : pItem v1 it w) (h2 : pItem v2 it w) : Calls Tryz.prog 7 #[v1, v2] w fun e w' => e = .returned (.bool true) ∧ Below w.heap.size w w' := by
  obtain ⟨d1, rfl, h1⟩ := h1
  obtain ⟨d2, rfl, h2⟩ := h2
  have hb : Below w.heap.size w ((w.alloc (.cells #[.int .i64 (it.kind : Nat), .bool it.neg, d1, .int .i64 it.k, .int .i64 it.big, .bool it.cut] 27)).alloc (.cells #[.int .i64 (it.kind : Nat), .bool it.neg, d2, .int .i64 it.k, .int .i64 it.big, .bool it.cut] 27)) := ((Below.refl _ _).alloc (Nat.le_refl _) _).alloc (by simp) _
  have hc := cmp_t (h1.below hb).isN (h2.below hb).isN (by decide) (by decide)
  rw [cmpV_eq rfl] at hc
  obtain ⟨A1, c1, z1, rfl, g1⟩ := h1
  obtain ⟨A2, c2, z2, rfl, g2⟩ := h2
  replace hc := Lib.hid hc
  clear g1 g2
  go_enter Tryz.func7, Tryz.ntmps7
  go_wp2_with fail
  refine hc.out.mono ?_
  rintro e w2 ⟨rfl, hb2⟩
  obtain ⟨hcc, hff⟩ := bcell hb2
  simp only [ssize_alloc1] at hcc hff
  have a3 : w2.cell? ⟨w.heap.size, 3, none⟩ = some (.int .i64 it.k) := by rw [hcc _ _ (by omega)]; simp
  have a4 : w2.cell? ⟨w.heap.size, 4, none⟩ = some (.int .i64 it.big) := by rw [hcc _ _ (by omega)]; simp
  have a5 : w2.cell? ⟨w.heap.size, 5, none⟩ = some (.bool it.cut) := by rw [hcc _ _ (by omega)]; simp
  have b3 : w2.cell? ⟨w.heap.size + 1, 3, none⟩ = some (.int .i64 it.k) := by rw [hcc _ _ (by omega)]; simp
  have b4 : w2.cell? ⟨w.heap.size + 1, 4, none⟩ = some (.int .i64 it.big) := by rw [hcc _ _ (by omega)]; simp
  have b5 : w2.cell? ⟨w.heap.size + 1, 5, none⟩ = some (.bool it.cut) := by rw [hcc _ _ (by omega)]; simp
  have hfin := chain hb hb2
  clear hcc hff hb2
  go_wp2
  go_ret
  exact ⟨rfl, hfin⟩
end Go.Proofs.YtabgfdingdmnlaaGreatDoor
namespace Go.Proofs.YtabgfdingdmnlaaGreatDoor
open Go.RowKit Go.Cal
/-- A block that a walk has made. -/
def pBlk (g : Nat) (cs : Array Value) (t : TypeId) (w : World) : Prop := w.heap[g]? = some (.cells cs t (0, 0))
theorem pBlk_st (g : Nat) (cs : Array Value) (t : TypeId) : Stable (pBlk g cs t) := fun w w' h hb => by
  have hlt := (Array.getElem?_eq_some_iff.1 h).1
  exact (hb.block g hlt).trans h
theorem pBlk_made (w : World) (cs : Array Value) (t : TypeId) : pBlk w.heap.size cs t (w.alloc (.cells cs t)) := heap_alloc_new w _
theorem pBlk.cell {g : Nat} {cs : Array Value} {t : TypeId} {w : World} (h : pBlk g cs t w) (i : Nat) (v : Value) (hv : cs[i]? = some v) : w.cell? ⟨g, i, none⟩ = some v := by
  rw [cell_of_row w g i cs t (0, 0) h, hv]
/-- of, of a text that stands there. -/
theorem of_lit (l : List UInt8) (kd : Int) (ng : Bool) (N : Nat) (k bg : Int) (ct : Bool) (h : itemOf l = ⟨kd.toNat, ng, N, k, bg, ct⟩) (hk : 0 ≤ kd ∧ l.length ≤ 1000) (w : World) : Calls Tryz.prog 8 #[.string ⟨l.toArray⟩] w fun e w' =>
    ∃ A n c, e = .returned (.agg #[.int .i64 kd, .bool ng, .slice A n c, .int .i64 k, .int .i64 bg, .bool ct]) ∧ pT (.slice A n c) 2000 N w' ∧ Below w.heap.size w w' := by
  refine (of_any' l (by omega) w).mono ?_
  rintro e w' ⟨v, rfl, ⟨d, rfl, hd⟩, hb⟩
  rw [h] at hd ⊢
  obtain ⟨A, c, zs, rfl, hr⟩ := id hd
  refine ⟨A, _, c, ?_, hd, hb⟩
  rw [Int.toNat_of_nonneg hk.1]
def lBv (l : List UInt8) : List Value := l.map fun x => Value.int .u8 (x.toNat : Int)
theorem rd_lit (w : World) (l : List UInt8) (cs : Array Value) (h : cs = (lBv l).toArray) (fr : Nat × Nat) : RdB (w.alloc (.cells cs 5 fr)) (w.alloc (.cells cs 5 fr)).heap.size (some ⟨w.heap.size, 0, none⟩) l := by
  refine ⟨.inr ⟨_, _, rfl, by simp⟩, fun b off e i hi => ?_⟩
  injection e with e
  injection e with e1 e2
  subst e1; subst e2
  rw [World.cell?_alloc_mark, Nat.zero_add, h]
  simp [lBv, List.getD_eq_getElem?_getD, hi]
theorem rd_lit2 (w : World) (o : Obj) (l : List UInt8) (cs : Array Value) (h : cs = (lBv l).toArray) (fr : Nat × Nat) : RdB ((w.alloc o).alloc (.cells cs 5 fr)) ((w.alloc o).alloc (.cells cs 5 fr)).heap.size (some ⟨w.heap.size + 1, 0, none⟩) l := by
  have h1 := rd_lit (w.alloc o) l cs h fr
  have hs : (w.alloc o).heap.size = w.heap.size + 1 := by simp
  rw [hs] at h1
  exact h1
/-- Scan, of bytes that are no text. -/
theorem scan_lit (l : List UInt8) (p : Nat) (h : textS l = (false, p)) (hk : l.length ≤ 1000) (w : World) {A : Option Addr} {c : Nat} (hr : RdB w w.heap.size A l) : Calls Tryz.prog 5 #[.slice A l.length c] w fun e w' =>
    e = .returned (.tuple #[.agg #[.int .i64 0, .bool false, .slice none 0 0, .int .i64 0, .int .i64 0, .bool false], .int .i64 p, .int .i64 2]) ∧ Below w.heap.size w w' := by
  refine (scan_any l c w hr (by omega)).mono ?_
  rintro e w' ⟨⟨hok, _⟩ | ⟨_, rfl⟩, hb⟩
  · rw [h] at hok; cases hok
  · rw [h]; exact ⟨rfl, hb⟩
theorem conv_const (w : World) (o : Obj) (C : Array Value) (n c : Nat) : (convert 22 22 (.slice (some ⟨w.heap.size + 1, 0, none⟩) n c)).run Tryz.prog ((w.alloc o).alloc (.cells C 5)) = .ok (.slice (some ⟨w.heap.size + 1, 0, none⟩) n c) ((w.alloc o).alloc (.cells C 5 (C.size, C.size + 1))) := by
  have h := Lib.run_convert_bytes_const (P := Tryz.prog) (w.alloc o) 22 5 C n c sunder_bytes sunder_byte
  have hs : (w.alloc o).heap.size = w.heap.size + 1 := by simp
  rw [hs] at h
  exact h
theorem stext_t {w : World} {v1 : Value} {k1 X : Nat} (hT : Tab10 w) (h : IsN w v1 k1 X) (b1 : k1 ≤ 1048576) :
    Calls Tryz.prog 9 #[v1] w fun e w' => e = .returned (.string ⟨(Lib.decDigits X).toArray⟩) ∧ Below w.heap.size w w' := by
  obtain ⟨A1, c1, z1, rfl, r1, hc1, hl1, d1, rfl⟩ := h
  exact text_any c1 w r1 hc1 (by omega) d1 hT
set_option maxRecDepth 100000 in
theorem field_kind (k : Int) (ng : Bool) (A : Option Addr) (n c : Nat) (x y : Int) (ct : Bool) (w : World) : (Instr.field 27 (.agg #[.int .i64 k, .bool ng, .slice A n c, .int .i64 x, .int .i64 y, .bool ct]) 0).run Tryz.prog w = .ok (.int .i64 k) w := by
  rfl
set_option maxRecDepth 100000 in
set_option maxHeartbeats 2000000 in
theorem shown_any (w : World) (hT : Tab10 w) : Calls Tryz.prog 4 #[] w fun e w' => e = .returned (.bool true) ∧ Below w.heap.size w w' := by
  have hL := LiveP.start w
  have kc := conv_const
  have hfd := field_kind
  go_enter Tryz.func4, Tryz.ntmps4
  go_wp2_with fail; refine (of_lit [45, 49, 50, 46, 53, 48, 101, 51] 1 true 125 2 0 false (by kernel_rfl) (by decide) _).mono ?_; rintro e v1 ⟨A1, n1, c1, rfl, hv, hb⟩; replace hL := (hL.go hb).put (pT_st _ _ _) hv; replace hL := (hL.go ((Below.refl _ _).alloc (Nat.le_refl _) (.cells #[.int .i64 1, .bool true, .slice A1 n1 c1, .int .i64 2, .int .i64 0, .bool false] 27))).put (pBlk_st _ _ _) (pBlk_made v1 _ 27); clear hb hv
  go_wp2_with fail; refine (scan_lit [49, 101] 2 (by kernel_rfl) (by decide) _ (rd_lit2 _ _ [49, 101] _ rfl _)).mono ?_; rintro e v2 ⟨rfl, hb⟩; replace hL := (hL.go ((Below.refl _ _).alloc (Nat.le_refl _) _)).go hb; replace hL := hL.go ((Below.refl _ _).alloc (Nat.le_refl _) (.cells #[.int .i64 0, .bool false, .slice none 0 0, .int .i64 0, .int .i64 0, .bool false] 27)); clear hb
  go_wp2_with fail; refine (scan_lit [110, 97, 53] 2 (by kernel_rfl) (by decide) _ (rd_lit2 _ _ [110, 97, 53] _ rfl _)).mono ?_; rintro e v3 ⟨rfl, hb⟩; replace hL := (hL.go ((Below.refl _ _).alloc (Nat.le_refl _) _)).go hb; replace hL := hL.go ((Below.refl _ _).alloc (Nat.le_refl _) (.cells #[.int .i64 0, .bool false, .slice none 0 0, .int .i64 0, .int .i64 0, .bool false] 27)); clear hb
  go_wp2_with fail; refine (scan_lit [46] 1 (by kernel_rfl) (by decide) _ (rd_lit2 _ _ [46] _ rfl _)).mono ?_; rintro e v4 ⟨rfl, hb⟩; replace hL := (hL.go ((Below.refl _ _).alloc (Nat.le_refl _) _)).go hb; replace hL := hL.go ((Below.refl _ _).alloc (Nat.le_refl _) (.cells #[.int .i64 0, .bool false, .slice none 0 0, .int .i64 0, .int .i64 0, .bool false] 27)); clear hb
  go_wp2_with fail; refine (of_lit [49, 101, 57, 57, 57, 57, 57, 57, 57, 57, 57, 57, 57, 57, 57, 57, 57, 57, 57, 57, 57, 57] 1 false 0 0 1 false (by kernel_rfl) (by decide) _).mono ?_; rintro e v5 ⟨A5, n5, c5, rfl, hv, hb⟩; replace hL := (hL.go hb).put (pT_st _ _ _) hv; replace hL := (hL.go ((Below.refl _ _).alloc (Nat.le_refl _) (.cells #[.int .i64 1, .bool false, .slice A5 n5 c5, .int .i64 0, .int .i64 1, .bool false] 27))).put (pBlk_st _ _ _) (pBlk_made v5 _ 27); clear hb hv
  go_wp2_with fail; refine (of_lit [49, 101, 45, 57, 57, 57, 57, 57, 57, 57, 57, 57, 57, 57, 57, 57, 57, 57, 57, 57, 57, 57, 57] 1 false 0 0 (-1) false (by kernel_rfl) (by decide) _).mono ?_; rintro e v6 ⟨A6, n6, c6, rfl, hv, hb⟩; replace hL := (hL.go hb).put (pT_st _ _ _) hv; replace hL := (hL.go ((Below.refl _ _).alloc (Nat.le_refl _) (.cells #[.int .i64 1, .bool false, .slice A6 n6 c6, .int .i64 0, .int .i64 (-1), .bool false] 27))).put (pBlk_st _ _ _) (pBlk_made v6 _ 27); clear hb hv
  go_wp2_with fail; refine (of_lit [45, 78, 97, 82] 4 true 0 0 0 false (by kernel_rfl) (by decide) _).mono ?_; rintro e v7 ⟨A7, n7, c7, rfl, hv, hb⟩; replace hL := (hL.go hb).put (pT_st _ _ _) hv; replace hL := (hL.go ((Below.refl _ _).alloc (Nat.le_refl _) (.cells #[.int .i64 4, .bool true, .slice A7 n7 c7, .int .i64 0, .int .i64 0, .bool false] 27))).put (pBlk_st _ _ _) (pBlk_made v7 _ 27); clear hb hv
  go_wp2_with fail
  refine (scan_lit [] 0 (by kernel_rfl) (by decide) _ ⟨.inl rfl, fun _ _ _ i hi => by simp at hi⟩).mono ?_
  rintro e v8 ⟨rfl, hb⟩
  replace hL := hL.go hb
  replace hL := hL.go ((Below.refl _ _).alloc (Nat.le_refl _) (.cells #[.int .i64 0, .bool false, .slice none 0 0, .int .i64 0, .int .i64 0, .bool false] 27))
  clear hb
  have g10 := (hL.get (P := pBlk v1.heap.size #[.int .i64 1, .bool true, .slice A1 n1 c1, .int .i64 2, .int .i64 0, .bool false] 27) (by repeat (first | exact List.mem_cons_self | apply List.mem_cons_of_mem))).cell 0 _ rfl
  have g11 := (hL.get (P := pBlk v1.heap.size #[.int .i64 1, .bool true, .slice A1 n1 c1, .int .i64 2, .int .i64 0, .bool false] 27) (by repeat (first | exact List.mem_cons_self | apply List.mem_cons_of_mem))).cell 1 _ rfl
  have g12 := (hL.get (P := pBlk v1.heap.size #[.int .i64 1, .bool true, .slice A1 n1 c1, .int .i64 2, .int .i64 0, .bool false] 27) (by repeat (first | exact List.mem_cons_self | apply List.mem_cons_of_mem))).cell 2 _ rfl
  have g13 := (hL.get (P := pBlk v1.heap.size #[.int .i64 1, .bool true, .slice A1 n1 c1, .int .i64 2, .int .i64 0, .bool false] 27) (by repeat (first | exact List.mem_cons_self | apply List.mem_cons_of_mem))).cell 3 _ rfl
  have g54 := (hL.get (P := pBlk v5.heap.size #[.int .i64 1, .bool false, .slice A5 n5 c5, .int .i64 0, .int .i64 1, .bool false] 27) (by repeat (first | exact List.mem_cons_self | apply List.mem_cons_of_mem))).cell 4 _ rfl
  have g64 := (hL.get (P := pBlk v6.heap.size #[.int .i64 1, .bool false, .slice A6 n6 c6, .int .i64 0, .int .i64 (-1), .bool false] 27) (by repeat (first | exact List.mem_cons_self | apply List.mem_cons_of_mem))).cell 4 _ rfl
  have g70 := (hL.get (P := pBlk v7.heap.size #[.int .i64 4, .bool true, .slice A7 n7 c7, .int .i64 0, .int .i64 0, .bool false] 27) (by repeat (first | exact List.mem_cons_self | apply List.mem_cons_of_mem))).cell 0 _ rfl
  have g71 := (hL.get (P := pBlk v7.heap.size #[.int .i64 4, .bool true, .slice A7 n7 c7, .int .i64 0, .int .i64 0, .bool false] 27) (by repeat (first | exact List.mem_cons_self | apply List.mem_cons_of_mem))).cell 1 _ rfl
  have htx := stext_t (hT.below hL.below) (IsT.isN (hL.get (P := pT (.slice A1 n1 c1) 2000 125) (by repeat (first | exact List.mem_cons_self | apply List.mem_cons_of_mem)))) (by decide)
  rw [dec_is (l := [49, 50, 53]) (by decide) (by decide) (by decide) (by decide)] at htx
  replace htx := Lib.hid htx
  go_wp2_with fail
  refine htx.out.mono ?_
  rintro e v9 ⟨rfl, hb⟩
  replace hL := hL.go hb
  clear hb htx g10 g11 g12 g13 g54 g64 g70 g71
  have g10 := (hL.get (P := pBlk v1.heap.size #[.int .i64 1, .bool true, .slice A1 n1 c1, .int .i64 2, .int .i64 0, .bool false] 27) (by repeat (first | exact List.mem_cons_self | apply List.mem_cons_of_mem))).cell 0 _ rfl
  have g11 := (hL.get (P := pBlk v1.heap.size #[.int .i64 1, .bool true, .slice A1 n1 c1, .int .i64 2, .int .i64 0, .bool false] 27) (by repeat (first | exact List.mem_cons_self | apply List.mem_cons_of_mem))).cell 1 _ rfl
  have g12 := (hL.get (P := pBlk v1.heap.size #[.int .i64 1, .bool true, .slice A1 n1 c1, .int .i64 2, .int .i64 0, .bool false] 27) (by repeat (first | exact List.mem_cons_self | apply List.mem_cons_of_mem))).cell 2 _ rfl
  have g13 := (hL.get (P := pBlk v1.heap.size #[.int .i64 1, .bool true, .slice A1 n1 c1, .int .i64 2, .int .i64 0, .bool false] 27) (by repeat (first | exact List.mem_cons_self | apply List.mem_cons_of_mem))).cell 3 _ rfl
  have g54 := (hL.get (P := pBlk v5.heap.size #[.int .i64 1, .bool false, .slice A5 n5 c5, .int .i64 0, .int .i64 1, .bool false] 27) (by repeat (first | exact List.mem_cons_self | apply List.mem_cons_of_mem))).cell 4 _ rfl
  have g64 := (hL.get (P := pBlk v6.heap.size #[.int .i64 1, .bool false, .slice A6 n6 c6, .int .i64 0, .int .i64 (-1), .bool false] 27) (by repeat (first | exact List.mem_cons_self | apply List.mem_cons_of_mem))).cell 4 _ rfl
  have g70 := (hL.get (P := pBlk v7.heap.size #[.int .i64 4, .bool true, .slice A7 n7 c7, .int .i64 0, .int .i64 0, .bool false] 27) (by repeat (first | exact List.mem_cons_self | apply List.mem_cons_of_mem))).cell 0 _ rfl
  have g71 := (hL.get (P := pBlk v7.heap.size #[.int .i64 4, .bool true, .slice A7 n7 c7, .int .i64 0, .int .i64 0, .bool false] 27) (by repeat (first | exact List.mem_cons_self | apply List.mem_cons_of_mem))).cell 1 _ rfl
  go_wp2_with fail
  refine (of_lit [105, 110, 102] 2 false 0 0 0 false (by kernel_rfl) (by decide) _).mono ?_
  rintro e v10 ⟨A10, n10, c10, rfl, hv, hb⟩
  replace hL := hL.go hb
  clear hb hv g10 g11 g12 g13 g54 g64 g70 g71
  go_wp2_with fail
  refine (of_lit [110, 97, 110] 3 false 0 0 0 false (by kernel_rfl) (by decide) _).mono ?_
  rintro e v11 ⟨A11, n11, c11, rfl, hv, hb⟩
  replace hL := hL.go hb
  clear hb hv
  go_wp2
  go_ret
  exact ⟨rfl, hL.below⟩
end Go.Proofs.YtabgfdingdmnlaaGreatDoor
