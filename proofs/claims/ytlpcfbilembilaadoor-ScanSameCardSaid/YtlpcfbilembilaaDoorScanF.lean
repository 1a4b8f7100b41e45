/- The laws of Scan: what must be in any case. Condition: the table of powers reads as it is laid. -/
import Derived.Test.YtlpcfbilembilaaDoorScanE
import Derived.Lib.SlBytesConst
namespace Go.Proofs.YtlpcfbilembilaaDoor
open Go.RowKit Go.Cal
/-- A block that a walk has made. -/
def pBlk (g : Nat) (cs : Array Value) (t : TypeId) (w : World) : Prop := w.heap[g]? = some (.cells cs t (0, 0))
theorem pBlk_st (g : Nat) (cs : Array Value) (t : TypeId) : Stable (pBlk g cs t) := fun w w' h hb => by
  have hlt := (Array.getElem?_eq_some_iff.1 h).1
  exact (hb.block g hlt).trans h
theorem pBlk_made (w : World) (cs : Array Value) (t : TypeId) : pBlk w.heap.size cs t (w.alloc (.cells cs t)) := heap_alloc_new w _
theorem pBlk.cell {g : Nat} {cs : Array Value} {t : TypeId} {w : World} (h : pBlk g cs t w) (i : Nat) (v : Value) (hv : cs[i]? = some v) : w.cell? ⟨g, i, none⟩ = some v := by
  rw [cell_of_row w g i cs t (0, 0) h, hv]
/-- of, of a text that stands there. -/
theorem of_lit (l : List UInt8) (kd : Int) (ng : Bool) (N : Nat) (k bg : Int) (ct : Bool) (h : itemOf l = ⟨kd.toNat, ng, N, k, bg, ct⟩) (hk : 0 ≤ kd ∧ l.length ≤ 1000) (w : World) : Calls Tryd.prog 12 #[.string ⟨l.toArray⟩] w fun e w' =>
    ∃ A n c, e = .returned (.agg #[.int .i64 kd, .bool ng, .slice A n c, .int .i64 k, .int .i64 bg, .bool ct]) ∧ pT (.slice A n c) 2000 N w' ∧ Below w.heap.size w w' := by
  refine (of_any' l (by omega) w).mono ?_
  rintro e w' ⟨v, rfl, ⟨d, rfl, hd⟩, hb⟩
  rw [h] at hd ⊢
  obtain ⟨A, c, zs, rfl, hr⟩ := id hd
  refine ⟨A, _, c, ?_, hd, hb⟩
  rw [Int.toNat_of_nonneg hk.1]
def lBv (l : List UInt8) : List Value := l.map fun x => Value.int .u8 (x.toNat : Int)
theorem rd_lit (w : World) (l : List UInt8) (cs : Array Value) (h : cs = (lBv l).toArray) (fr : Nat × Nat) : RdB (w.alloc (.cells cs 5 fr)) (w.alloc (.cells cs 5 fr)).heap.size (some ⟨w.heap.size, 0, none⟩) l := by
  refine ⟨.inr ⟨_, _, rfl, by simp⟩, fun b off e i hi => ?_⟩
  injection e with e
  injection e with e1 e2
  subst e1; subst e2
  rw [World.cell?_alloc_mark, Nat.zero_add, h]
  simp [lBv, List.getD_eq_getElem?_getD, hi]
theorem rd_lit2 (w : World) (o : Obj) (l : List UInt8) (cs : Array Value) (h : cs = (lBv l).toArray) (fr : Nat × Nat) : RdB ((w.alloc o).alloc (.cells cs 5 fr)) ((w.alloc o).alloc (.cells cs 5 fr)).heap.size (some ⟨w.heap.size + 1, 0, none⟩) l := by
  have h1 := rd_lit (w.alloc o) l cs h fr
  have hs : (w.alloc o).heap.size = w.heap.size + 1 := by simp
  rw [hs] at h1
  exact h1
/-- Scan, of bytes that are no text. -/
theorem scan_lit (l : List UInt8) (p : Nat) (h : textS l = (false, p)) (hk : l.length ≤ 1000) (w : World) {A : Option Addr} {c : Nat} (hr : RdB w w.heap.size A l) : Calls Tryd.prog 11 #[.slice A l.length c] w fun e w' =>
    e = .returned (.tuple #[.agg #[.int .i64 0, .bool false, .slice none 0 0, .int .i64 0, .int .i64 0, .bool false], .int .i64 p, .int .i64 2]) ∧ Below w.heap.size w w' := by
  refine (scan_any l c w hr (by omega)).mono ?_
  rintro e w' ⟨⟨hok, _⟩ | ⟨_, rfl⟩, hb⟩
  · rw [h] at hok; cases hok
  · rw [h]; exact ⟨rfl, hb⟩
theorem conv_const (w : World) (o : Obj) (C : Array Value) (n c : Nat) : (convert 22 22 (.slice (some ⟨w.heap.size + 1, 0, none⟩) n c)).run Tryd.prog ((w.alloc o).alloc (.cells C 5)) = .ok (.slice (some ⟨w.heap.size + 1, 0, none⟩) n c) ((w.alloc o).alloc (.cells C 5 (C.size, C.size + 1))) := by
  have h := Lib.run_convert_bytes_const (P := Tryd.prog) (w.alloc o) 22 5 C n c sunder_bytes sunder_byte
  have hs : (w.alloc o).heap.size = w.heap.size + 1 := by simp
  rw [hs] at h
  exact h
theorem stext_t {w : World} {v1 : Value} {k1 X : Nat} (hT : Tab10 w) (h : IsN w v1 k1 X) (b1 : k1 ≤ 1048576) :
    Calls Tryd.prog 15 #[v1] w fun e w' => e = .returned (.string ⟨(Lib.decDigits X).toArray⟩) ∧ Below w.heap.size w w' := by
  obtain ⟨A1, c1, z1, rfl, r1, hc1, hl1, d1, rfl⟩ := h
  exact text_any c1 w r1 hc1 (by omega) d1 hT
set_option maxRecDepth 100000 in
theorem field_kind (k : Int) (ng : Bool) (A : Option Addr) (n c : Nat) (x y : Int) (ct : Bool) (w : World) : (Instr.field 27 (.agg #[.int .i64 k, .bool ng, .slice A n c, .int .i64 x, .int .i64 y, .bool ct]) 0).run Tryd.prog w = .ok (.int .i64 k) w := by
  rfl
set_option maxRecDepth 100000 in
set_option maxHeartbeats 2000000 in
theorem shown_any (w : World) (hT : Tab10 w) : Calls Tryd.prog 10 #[] w fun e w' => e = .returned (.bool true) ∧ Below w.heap.size w w' := by
  have hL := LiveP.start w
  have kc := conv_const
  have hfd := field_kind
  go_enter Tryd.func10, Tryd.ntmps10
  go_wp2_with fail; refine (of_lit [45, 49, 50, 46, 53, 48, 101, 51] 1 true 125 2 0 false (by kernel_rfl) (by decide) _).mono ?_; rintro e v1 ⟨A1, n1, c1, rfl, hv, hb⟩; replace hL := (hL.go hb).put (pT_st _ _ _) hv; replace hL := (hL.go ((Below.refl _ _).alloc (Nat.le_refl _) (.cells #[.int .i64 1, .bool true, .slice A1 n1 c1, .int .i64 2, .int .i64 0, .bool false] 27))).put (pBlk_st _ _ _) (pBlk_made v1 _ 27); clear hb hv
  go_wp2_with fail; refine (scan_lit [49, 101] 2 (by kernel_rfl) (by decide) _ (rd_lit2 _ _ [49, 101] _ rfl _)).mono ?_; rintro e v2 ⟨rfl, hb⟩; replace hL := (hL.go ((Below.refl _ _).alloc (Nat.le_refl _) _)).go hb; replace hL := hL.go ((Below.refl _ _).alloc (Nat.le_refl _) (.cells #[.int .i64 0, .bool false, .slice none 0 0, .int .i64 0, .int .i64 0, .bool false] 27)); clear hb
  go_wp2_with fail; refine (scan_lit [110, 97, 53] 2 (by kernel_rfl) (by decide) _ (rd_lit2 _ _ [110, 97, 53] _ rfl _)).mono ?_; rintro e v3 ⟨rfl, hb⟩; replace hL := (hL.go ((Below.refl _ _).alloc (Nat.le_refl _) _)).go hb; replace hL := hL.go ((Below.refl _ _).alloc (Nat.le_refl _) (.cells #[.int .i64 0, .bool false, .slice none 0 0, .int .i64 0, .int .i64 0, .bool false] 27)); clear hb
  go_wp2_with fail; refine (scan_lit [46] 1 (by kernel_rfl) (by decide) _ (rd_lit2 _ _ [46] _ rfl _)).mono ?_; rintro e v4 ⟨rfl, hb⟩; replace hL := (hL.go ((Below.refl _ _).alloc (Nat.le_refl _) _)).go hb; replace hL := hL.go ((Below.refl _ _).alloc (Nat.le_refl _) (.cells #[.int .i64 0, .bool false, .slice none 0 0, .int .i64 0, .int .i64 0, .bool false] 27)); clear hb
  go_wp2_with fail; refine (of_lit [49, 101, 57, 57, 57, 57, 57, 57, 57, 57, 57, 57, 57, 57, 57, 57, 57, 57, 57, 57, 57, 57] 1 false 0 0 1 false (by kernel_rfl) (by decide) _).mono ?_; rintro e v5 ⟨A5, n5, c5, rfl, hv, hb⟩; replace hL := (hL.go hb).put (pT_st _ _ _) hv; replace hL := (hL.go ((Below.refl _ _).alloc (Nat.le_refl _) (.cells #[.int .i64 1, .bool false, .slice A5 n5 c5, .int .i64 0, .int .i64 1, .bool false] 27))).put (pBlk_st _ _ _) (pBlk_made v5 _ 27); clear hb hv
  go_wp2_with fail; refine (of_lit [49, 101, 45, 57, 57, 57, 57, 57, 57, 57, 57, 57, 57, 57, 57, 57, 57, 57, 57, 57, 57, 57, 57] 1 false 0 0 (-1) false (by kernel_rfl) (by decide) _).mono ?_; rintro e v6 ⟨A6, n6, c6, rfl, hv, hb⟩; replace hL := (hL.go hb).put (pT_st _ _ _) hv; replace hL := (hL.go ((Below.refl _ _).alloc (Nat.le_refl _) (.cells #[.int .i64 1, .bool false, .slice A6 n6 c6, .int .i64 0, .int .i64 (-1), .bool false] 27))).put (pBlk_st _ _ _) (pBlk_made v6 _ 27); clear hb hv
  go_wp2_with fail; refine (of_lit [45, 78, 97, 82] 4 true 0 0 0 false (by kernel_rfl) (by decide) _).mono ?_; rintro e v7 ⟨A7, n7, c7, rfl, hv, hb⟩; replace hL := (hL.go hb).put (pT_st _ _ _) hv; replace hL := (hL.go ((Below.refl _ _).alloc (Nat.le_refl _) (.cells #[.int .i64 4, .bool true, .slice A7 n7 c7, .int .i64 0, .int .i64 0, .bool false] 27))).put (pBlk_st _ _ _) (pBlk_made v7 _ 27); clear hb hv
  go_wp2_with fail
  refine (scan_lit [] 0 (by kernel_rfl) (by decide) _ ⟨.inl rfl, fun _ _ _ i hi => by simp at hi⟩).mono ?_
  rintro e v8 ⟨rfl, hb⟩
  replace hL := hL.go hb
  replace hL := hL.go ((Below.refl _ _).alloc (Nat.le_refl _) (.cells #[.int .i64 0, .bool false, .slice none 0 0, .int .i64 0, .int .i64 0, .bool false] 27))
  clear hb
  have g10 := (hL.get (P := pBlk v1.heap.size #[.int .i64 1, .bool true, .slice A1 n1 c1, .int .i64 2, .int .i64 0, .bool false] 27) (by repeat (first | exact List.mem_cons_self | apply List.mem_cons_of_mem))).cell 0 _ rfl
  have g11 := (hL.get (P := pBlk v1.heap.size #[.int .i64 1, .bool true, .slice A1 n1 c1, .int .i64 2, .int .i64 0, .bool false] 27) (by repeat (first | exact List.mem_cons_self | apply List.mem_cons_of_mem))).cell 1 _ rfl
  have g12 := (hL.get (P := pBlk v1.heap.size #[.int .i64 1, .bool true, .slice A1 n1 c1, .int .i64 2, .int .i64 0, .bool false] 27) (by repeat (first | exact List.mem_cons_self | apply List.mem_cons_of_mem))).cell 2 _ rfl
  have g13 := (hL.get (P := pBlk v1.heap.size #[.int .i64 1, .bool true, .slice A1 n1 c1, .int .i64 2, .int .i64 0, .bool false] 27) (by repeat (first | exact List.mem_cons_self | apply List.mem_cons_of_mem))).cell 3 _ rfl
  have g54 := (hL.get (P := pBlk v5.heap.size #[.int .i64 1, .bool false, .slice A5 n5 c5, .int .i64 0, .int .i64 1, .bool false] 27) (by repeat (first | exact List.mem_cons_self | apply List.mem_cons_of_mem))).cell 4 _ rfl
  have g64 := (hL.get (P := pBlk v6.heap.size #[.int .i64 1, .bool false, .slice A6 n6 c6, .int .i64 0, .int .i64 (-1), .bool false] 27) (by repeat (first | exact List.mem_cons_self | apply List.mem_cons_of_mem))).cell 4 _ rfl
  have g70 := (hL.get (P := pBlk v7.heap.size #[.int .i64 4, .bool true, .slice A7 n7 c7, .int .i64 0, .int .i64 0, .bool false] 27) (by repeat (first | exact List.mem_cons_self | apply List.mem_cons_of_mem))).cell 0 _ rfl
  have g71 := (hL.get (P := pBlk v7.heap.size #[.int .i64 4, .bool true, .slice A7 n7 c7, .int .i64 0, .int .i64 0, .bool false] 27) (by repeat (first | exact List.mem_cons_self | apply List.mem_cons_of_mem))).cell 1 _ rfl
  have htx := stext_t (hT.below hL.below) (IsT.isN (hL.get (P := pT (.slice A1 n1 c1) 2000 125) (by repeat (first | exact List.mem_cons_self | apply List.mem_cons_of_mem)))) (by decide)
  rw [dec_is (l := [49, 50, 53]) (by decide) (by decide) (by decide) (by decide)] at htx
  replace htx := Lib.hid htx
  go_wp2_with fail
  refine htx.out.mono ?_
  rintro e v9 ⟨rfl, hb⟩
  replace hL := hL.go hb
  clear hb htx g10 g11 g12 g13 g54 g64 g70 g71
  have g10 := (hL.get (P := pBlk v1.heap.size #[.int .i64 1, .bool true, .slice A1 n1 c1, .int .i64 2, .int .i64 0, .bool false] 27) (by repeat (first | exact List.mem_cons_self | apply List.mem_cons_of_mem))).cell 0 _ rfl
  have g11 := (hL.get (P := pBlk v1.heap.size #[.int .i64 1, .bool true, .slice A1 n1 c1, .int .i64 2, .int .i64 0, .bool false] 27) (by repeat (first | exact List.mem_cons_self | apply List.mem_cons_of_mem))).cell 1 _ rfl
  have g12 := (hL.get (P := pBlk v1.heap.size #[.int .i64 1, .bool true, .slice A1 n1 c1, .int .i64 2, .int .i64 0, .bool false] 27) (by repeat (first | exact List.mem_cons_self | apply List.mem_cons_of_mem))).cell 2 _ rfl
  have g13 := (hL.get (P := pBlk v1.heap.size #[.int .i64 1, .bool true, .slice A1 n1 c1, .int .i64 2, .int .i64 0, .bool false] 27) (by repeat (first | exact List.mem_cons_self | apply List.mem_cons_of_mem))).cell 3 _ rfl
  have g54 := (hL.get (P := pBlk v5.heap.size #[.int .i64 1, .bool false, .slice A5 n5 c5, .int .i64 0, .int .i64 1, .bool false] 27) (by repeat (first | exact List.mem_cons_self | apply List.mem_cons_of_mem))).cell 4 _ rfl
  have g64 := (hL.get (P := pBlk v6.heap.size #[.int .i64 1, .bool false, .slice A6 n6 c6, .int .i64 0, .int .i64 (-1), .bool false] 27) (by repeat (first | exact List.mem_cons_self | apply List.mem_cons_of_mem))).cell 4 _ rfl
  have g70 := (hL.get (P := pBlk v7.heap.size #[.int .i64 4, .bool true, .slice A7 n7 c7, .int .i64 0, .int .i64 0, .bool false] 27) (by repeat (first | exact List.mem_cons_self | apply List.mem_cons_of_mem))).cell 0 _ rfl
  have g71 := (hL.get (P := pBlk v7.heap.size #[.int .i64 4, .bool true, .slice A7 n7 c7, .int .i64 0, .int .i64 0, .bool false] 27) (by repeat (first | exact List.mem_cons_self | apply List.mem_cons_of_mem))).cell 1 _ rfl
  go_wp2_with fail
  refine (of_lit [105, 110, 102] 2 false 0 0 0 false (by kernel_rfl) (by decide) _).mono ?_
  rintro e v10 ⟨A10, n10, c10, rfl, hv, hb⟩
  replace hL := hL.go hb
  clear hb hv g10 g11 g12 g13 g54 g64 g70 g71
  go_wp2_with fail
  refine (of_lit [110, 97, 110] 3 false 0 0 0 false (by kernel_rfl) (by decide) _).mono ?_
  rintro e v11 ⟨A11, n11, c11, rfl, hv, hb⟩
  replace hL := hL.go hb
  clear hb hv
  go_wp2
  go_ret
  exact ⟨rfl, hL.below⟩
end Go.Proofs.YtlpcfbilembilaaDoor
