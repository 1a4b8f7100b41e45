/- The laws of Scan: texts put together, and what they are. Conditions: none. -/
import Derived.Test.YtlpcfbilembilaaDoorScanH
namespace Go.Proofs.YtlpcfbilembilaaDoor
open Go.RowKit Go.Cal
theorem itemOf_of {l : List UInt8} {it : Cal.Item} (h1 : (textS l).1 = true) (h2 : textV 1125899906842624 l = it) : itemOf l = it := by
  unfold itemOf
  rw [if_pos h1, h2]
theorem numT_nat (x : Nat) : numT (x : Int) = Lib.decDigits x := by
  unfold numT
  rw [if_neg (by omega)]
  rfl
section
variable (W P : List UInt8) (hW : ∀ c ∈ W, isDig c = true) (hP : ∀ c ∈ P, isDig c = true) (x : Nat) (hx : x ≤ 2000) (z : Nat)
include hW hP hx
theorem case_ta : itemOf ((W ++ [48, 46] ++ P) ++ [101] ++ Lib.decDigits x) = itemV false (W ++ [48] ++ P) ((x : Int) - (P.length : Int)) := by
  obtain ⟨e1, e2⟩ := exp_low (C := 1125899906842624) 0 x (by omega)
  obtain ⟨t1, t2⟩ := case_num W P hW hP 1125899906842624 _ e1
  rw [e2] at t2
  have e : (W ++ [48, 46] ++ P) ++ [101] ++ Lib.decDigits x = (W ++ [48]) ++ 46 :: (P ++ 101 :: (List.replicate 0 48 ++ Lib.decDigits x)) := by simp
  rw [e]
  exact itemOf_of t1 t2
theorem case_tb : itemOf ((W ++ [48, 46] ++ P) ++ [69, 43] ++ List.replicate z 48 ++ Lib.decDigits x) = itemV false (W ++ [48] ++ P) ((x : Int) - (P.length : Int)) := by
  obtain ⟨e1, e2⟩ := exp_plus (C := 1125899906842624) z x (by omega)
  obtain ⟨t1, t2⟩ := case_num W P hW hP 1125899906842624 _ e1
  rw [e2] at t2
  have e : (W ++ [48, 46] ++ P) ++ [69, 43] ++ List.replicate z 48 ++ Lib.decDigits x = (W ++ [48]) ++ 46 :: (P ++ 69 :: 43 :: (List.replicate z 48 ++ Lib.decDigits x)) := by simp
  rw [e]
  exact itemOf_of t1 t2
theorem case_tc : itemOf ([48, 48] ++ (W ++ [48, 46] ++ P) ++ [48, 48, 101] ++ List.replicate z 48 ++ Lib.decDigits x) = itemV false (W ++ [48] ++ P) ((x : Int) - (P.length : Int)) := by
  obtain ⟨e1, e2⟩ := exp_low (C := 1125899906842624) z x (by omega)
  obtain ⟨t1, t2⟩ := case_wide W P hW hP 1125899906842624 _ e1
  rw [e2] at t2
  have e : [48, 48] ++ (W ++ [48, 46] ++ P) ++ [48, 48, 101] ++ List.replicate z 48 ++ Lib.decDigits x = ([48, 48] ++ (W ++ [48])) ++ 46 :: ((P ++ [48, 48]) ++ 101 :: (List.replicate z 48 ++ Lib.decDigits x)) := by simp
  rw [e]
  exact itemOf_of t1 t2
theorem case_td : itemOf ((W ++ [48, 46] ++ P) ++ [101, 45] ++ List.replicate z 48 ++ Lib.decDigits x) = itemV false (W ++ [48] ++ P) (-(x : Int) - (P.length : Int)) := by
  obtain ⟨e1, e2⟩ := exp_less (C := 1125899906842624) (e := 101) (.inl rfl) z x (by omega)
  obtain ⟨t1, t2⟩ := case_num W P hW hP 1125899906842624 _ e1
  rw [e2] at t2
  have e : (W ++ [48, 46] ++ P) ++ [101, 45] ++ List.replicate z 48 ++ Lib.decDigits x = (W ++ [48]) ++ 46 :: (P ++ 101 :: 45 :: (List.replicate z 48 ++ Lib.decDigits x)) := by simp
  rw [e]
  exact itemOf_of t1 t2
theorem case_tf : itemOf ((W ++ [48, 46] ++ P) ++ [69, 45] ++ Lib.decDigits x) = itemV false (W ++ [48] ++ P) (-(x : Int) - (P.length : Int)) := by
  obtain ⟨e1, e2⟩ := exp_less (C := 1125899906842624) (e := 69) (.inr rfl) 0 x (by omega)
  obtain ⟨t1, t2⟩ := case_num W P hW hP 1125899906842624 _ e1
  rw [e2] at t2
  have e : (W ++ [48, 46] ++ P) ++ [69, 45] ++ Lib.decDigits x = (W ++ [48]) ++ 46 :: (P ++ 69 :: 45 :: (List.replicate 0 48 ++ Lib.decDigits x)) := by simp
  rw [e]
  exact itemOf_of t1 t2
end
theorem cat_l (a b : List UInt8) (B : ByteArray) (hB : B = strL b) (k : Nat) (hk : a.length + b.length ≤ k) : ∃ t, strL a ++ B = strL t ∧ Hid (t = a ++ b) ∧ (strL t).size = t.length ∧ t.length ≤ k :=
  ⟨a ++ b, by rw [hB, strL_app], Lib.hid rfl, strL_size _, by rw [List.length_append]; exact hk⟩
theorem cat_r (a b : List UInt8) (B : ByteArray) (hB : B = strL b) (k : Nat) (hk : b.length + a.length ≤ k) : ∃ t, B ++ strL a = strL t ∧ Hid (t = b ++ a) ∧ (strL t).size = t.length ∧ t.length ≤ k :=
  ⟨b ++ a, by rw [hB, strL_app], Lib.hid rfl, strL_size _, by rw [List.length_append]; exact hk⟩
theorem of_item (l : List UInt8) (it : Cal.Item) (h : itemOf l = it) (hk : l.length ≤ 1000) (w : World) : Calls Tryd.prog 12 #[.string (strL l)] w fun e w' =>
    ∃ A n c, e = .returned (.agg #[.int .i64 (it.kind : Nat), .bool it.neg, .slice A n c, .int .i64 it.k, .int .i64 it.big, .bool it.cut]) ∧ pT (.slice A n c) 2000 it.d w' ∧ Below w.heap.size w w' := by
  subst h
  refine (of_any' l (by omega) w).mono ?_
  rintro e w' ⟨v, rfl, ⟨d, rfl, hd⟩, hb⟩
  obtain ⟨A, c, zs, rfl, hr⟩ := id hd
  exact ⟨A, _, c, rfl, hd, hb⟩
/-- Digits behind what stands. -/
def digS (S l : List UInt8) (i : Nat) : List UInt8 := S ++ digT l i
theorem digS_len (S l : List UInt8) (i : Nat) : (digS S l i).length ≤ S.length + i := by unfold digS; rw [List.length_append]; have := digT_len l i; omega
theorem digS_step (S l : List UInt8) (i : Nat) (h : i < l.length) : strL (digS S l i) ++ strL [UInt8.ofNat (48 + (l.getD i 0).toNat % 10)] = strL (digS S l (i + 1)) := by
  unfold digS
  rw [← strL_app, ← strL_app, ← digT_step l i h]
  unfold strL
  apply ByteArray.ext
  simp
theorem dec_few (x : Nat) (h : x ≤ 1000000) : (Lib.decDigits x).length ≤ 20 := dec_len_bound (k := 20) (by omega) (by omega)
set_option maxRecDepth 100000 in
set_option maxHeartbeats 1000000 in
theorem of_any_n (l : List UInt8) (hl : l.length ≤ 1099511627776) (w : World) : Calls Tryd.prog 12 #[.string (strL l)] w fun e w' => ∃ v, e = .returned v ∧ pItemN w.heap.size v (itemOf l) w' ∧ Below w.heap.size w w' := by
  have hcv := fun w => run_bytes_of_string (P := Tryd.prog) w 9 22 5 (strL l) sunder_str sunder_bytes sunder_byte
  have hsz := strL_size l
  simp only [hsz] at hcv
  have hbw0 : Below w.heap.size w (w.alloc (.cells #[.int .i64 0, .bool false, .slice none 0 0, .int .i64 0, .int .i64 0, .bool false] 27)) := (Below.refl _ _).alloc (Nat.le_refl _) _
  go_enter Tryd.func12, Tryd.ntmps12
  go_wp2_with fail
  refine (scan_any l _ _ (rd_bytes2 w _ l _ _) hl).mono ?_
  rintro e w2 hout
  obtain ⟨v, p, n, rfl, ⟨A3, c3, zs, rfl, r1, r2, r3, r4, r5, r6⟩, hb⟩ := scanOut_item hout
  have hz0 : w.heap.size + 1 + 1 ≤ w2.heap.size := by have := hb.size; simpa using this
  have hb1 : Below (w.heap.size + 1) (w.alloc (.cells #[.int .i64 0, .bool false, .slice none 0 0, .int .i64 0, .int .i64 0, .bool false] 27)) w2 := by
    refine Below.trans ?_ (hb.mono (by simp))
    exact ((Below.refl _ _).alloc (by simp) _).drew
  have hbw : Below w.heap.size w w2 := hbw0.trans (hb1.mono (by omega))
  have hz5 : w.heap.size < w2.heap.size := by omega
  have f4 : ∀ o, w2.frozen? ⟨w.heap.size, o, none⟩ = false := fun o => by rw [hb1.frozen (p := ⟨w.heap.size, o, none⟩) (by show w.heap.size < _; simp)]; simp
  have c40 : w2.cell? ⟨w.heap.size, 0, none⟩ = some (.int .i64 0) := by rw [hb1.cell (p := ⟨w.heap.size, 0, none⟩) (by show w.heap.size < _; simp)]; simp
  have c41 : w2.cell? ⟨w.heap.size, 1, none⟩ = some (.bool false) := by rw [hb1.cell (p := ⟨w.heap.size, 1, none⟩) (by show w.heap.size < _; simp)]; simp
  have c42 : w2.cell? ⟨w.heap.size, 2, none⟩ = some (.slice none 0 0) := by rw [hb1.cell (p := ⟨w.heap.size, 2, none⟩) (by show w.heap.size < _; simp)]; simp
  have c43 : w2.cell? ⟨w.heap.size, 3, none⟩ = some (.int .i64 0) := by rw [hb1.cell (p := ⟨w.heap.size, 3, none⟩) (by show w.heap.size < _; simp)]; simp
  have c44 : w2.cell? ⟨w.heap.size, 4, none⟩ = some (.int .i64 0) := by rw [hb1.cell (p := ⟨w.heap.size, 4, none⟩) (by show w.heap.size < _; simp)]; simp
  have c45 : w2.cell? ⟨w.heap.size, 5, none⟩ = some (.bool false) := by rw [hb1.cell (p := ⟨w.heap.size, 5, none⟩) (by show w.heap.size < _; simp)]; simp
  obtain ⟨it, hit⟩ : ∃ x, itemOf l = x := ⟨_, rfl⟩
  rw [hit] at r5 ⊢
  replace hit := Lib.hid hit
  clear hb hb1 hout hcv
  go_wp2
  refine bodyPost_ret (v := .agg #[.int .i64 (it.kind : Nat), .bool it.neg, .slice A3 zs.length c3, .int .i64 it.k, .int .i64 it.big, .bool it.cut]) (by simp [results, Tryd.results12, go_sem, c40, c41, c42, c43, c44, c45, hz5]) rfl ⟨_, rfl, ?_, ?_⟩
  · rw [hit.out]
    refine ⟨A3, c3, zs, rfl, ?_, r2, r3, r4, r5, r6.imp (fun h => h) (fun ⟨b, off, e, h⟩ => ⟨b, off, e, by simp at h; omega⟩)⟩
    refine RdU.more (B := w2.heap.size) (RdU.alloc ?_ (by simp) _) (by simp)
    iterate 6 (refine RdU.apart ?_ r6 (by show w.heap.size < _; simp; omega))
    exact r1
  · refine Below.alloc ?_ (by simp; omega) _
    iterate 6 (refine Below.setCell ?_ (by exact Nat.le_refl _) _)
    exact hbw
theorem of_item_n (l : List UInt8) (it : Cal.Item) (h : itemOf l = it) (hk : l.length ≤ 1000) (w : World) : Calls Tryd.prog 12 #[.string (strL l)] w fun e w' =>
    ∃ A n c, e = .returned (.agg #[.int .i64 (it.kind : Nat), .bool it.neg, .slice A n c, .int .i64 it.k, .int .i64 it.big, .bool it.cut]) ∧ pItemN w.heap.size (.agg #[.int .i64 (it.kind : Nat), .bool it.neg, .slice A n c, .int .i64 it.k, .int .i64 it.big, .bool it.cut]) it w' ∧ Below w.heap.size w w' := by
  subst h
  refine (of_any_n l (by omega) w).mono ?_
  rintro e w' ⟨v, rfl, hv, hb⟩
  obtain ⟨A, c, zs, rfl, hr⟩ := id hv
  exact ⟨A, _, c, rfl, hv, hb⟩
section
variable (D : List UInt8) (hD : ∀ c ∈ D, isDig c = true) (x : Int) (hx : -2000 ≤ x ∧ x ≤ 2000) (z m : Nat) (hm : m ≤ 40)
include hD hx
theorem same_ta : itemOf ((D ++ [55]) ++ [101] ++ numT x) = itemV false (D ++ [55]) x := by
  obtain ⟨t1, t2⟩ := same_a D hD 1125899906842624 x (by omega)
  have e : (D ++ [55]) ++ [101] ++ numT x = D ++ [55] ++ 101 :: numT x := by simp
  rw [e]
  exact itemOf_of t1 t2
include hm
theorem same_tb : itemOf (List.replicate z 48 ++ (D ++ [55]) ++ List.replicate m 48 ++ [46] ++ [101] ++ numT (x - m)) = itemV false (D ++ [55]) x := by
  obtain ⟨t1, t2⟩ := same_b D hD 1125899906842624 z m x (by omega)
  have e : List.replicate z 48 ++ (D ++ [55]) ++ List.replicate m 48 ++ [46] ++ [101] ++ numT (x - m) = List.replicate z 48 ++ (D ++ [55] ++ List.replicate m 48) ++ 46 :: ([] ++ 101 :: numT (x - m)) := by simp
  rw [e]
  exact itemOf_of t1 t2
theorem same_tc (hl : D.length ≤ 100) : itemOf ([48, 46] ++ List.replicate m 48 ++ (D ++ [55]) ++ [69] ++ numT (x + m + (D ++ [55]).length)) = itemV false (D ++ [55]) x := by
  obtain ⟨t1, t2⟩ := same_c D hD 1125899906842624 m x (by rw [List.length_append]; simp; omega)
  have e : [48, 46] ++ List.replicate m 48 ++ (D ++ [55]) ++ [69] ++ numT (x + m + (D ++ [55]).length) = [48] ++ 46 :: (List.replicate m 48 ++ (D ++ [55]) ++ 69 :: numT (x + m + (D ++ [55]).length)) := by simp
  rw [e]
  exact itemOf_of t1 t2
omit hm in
theorem same_td (hl : D.length ≤ 100) : itemOf ([46] ++ (D ++ [55]) ++ List.replicate m 48 ++ [101] ++ numT (x + (D ++ [55]).length)) = itemV false (D ++ [55]) x := by
  obtain ⟨t1, t2⟩ := same_d D hD 1125899906842624 m x (by rw [List.length_append]; simp; omega)
  have e : [46] ++ (D ++ [55]) ++ List.replicate m 48 ++ [101] ++ numT (x + (D ++ [55]).length) = [] ++ 46 :: ((D ++ [55] ++ List.replicate m 48) ++ 101 :: numT (x + (D ++ [55]).length)) := by simp
  rw [e]
  exact itemOf_of t1 t2
end
theorem numT_len (n : Int) (h : -100000 ≤ n ∧ n ≤ 100000) : (numT n).length ≤ 21 := by
  have := dec_few n.natAbs (by omega)
  unfold numT
  split
  · rw [List.length_cons]; omega
  · omega
theorem heap_set_same {w : World} {s i : Nat} {cs : Array Value} {t : TypeId} {fr : Nat × Nat} (h : w.heap[s]? = some (.cells cs t fr)) (v : Value) : (w.setCell ⟨s, i, none⟩ v).heap[s]? = some (.cells (cs.setIfInBounds i v) t fr) := Lib.heap_setCell_same (i := i) h v
theorem six_live {wq w6 : World} {s base : Nat} {it : Cal.Item} {A : Option Addr} {n c : Nat} {b0 b1 b2 b3 b4 b5 : Value} {a0 a1 a2 a3 a4 a5 : Value} {t : TypeId} (hd : pItemN base (.agg #[.int .i64 (it.kind : Nat), .bool it.neg, .slice A n c, .int .i64 it.k, .int .i64 it.big, .bool it.cut]) it w6)
    (hs : pBlk s #[a0, a1, a2, a3, a4, a5] t w6) (hsb : s < base) (hq : wq.heap.size ≤ s) (hb : Below wq.heap.size wq w6) :
    pT (.slice A n c) 2000 it.d ((((((w6.setCell ⟨s, 0, none⟩ b0).setCell ⟨s, 1, none⟩ b1).setCell ⟨s, 2, none⟩ b2).setCell ⟨s, 3, none⟩ b3).setCell ⟨s, 4, none⟩ b4).setCell ⟨s, 5, none⟩ b5) ∧
    pBlk s #[b0, b1, b2, b3, b4, b5] t ((((((w6.setCell ⟨s, 0, none⟩ b0).setCell ⟨s, 1, none⟩ b1).setCell ⟨s, 2, none⟩ b2).setCell ⟨s, 3, none⟩ b3).setCell ⟨s, 4, none⟩ b4).setCell ⟨s, 5, none⟩ b5) ∧
    Below wq.heap.size wq ((((((w6.setCell ⟨s, 0, none⟩ b0).setCell ⟨s, 1, none⟩ b1).setCell ⟨s, 2, none⟩ b2).setCell ⟨s, 3, none⟩ b3).setCell ⟨s, 4, none⟩ b4).setCell ⟨s, 5, none⟩ b5) := by
  refine ⟨?_, ?_, ?_⟩
  · have h1 := ((((((hd.setCell (p := ⟨s, 0, none⟩) b0 hsb).setCell (p := ⟨s, 1, none⟩) b1 hsb).setCell (p := ⟨s, 2, none⟩) b2 hsb).setCell (p := ⟨s, 3, none⟩) b3 hsb).setCell (p := ⟨s, 4, none⟩) b4 hsb).setCell (p := ⟨s, 5, none⟩) b5 hsb)
    exact pItem_again h1.item
  · have h0 : w6.heap[s]? = some (.cells #[a0, a1, a2, a3, a4, a5] t (0, 0)) := hs
    have h1 := heap_set_same (i := 0) h0 b0
    have h2 := heap_set_same (i := 1) h1 b1
    have h3 := heap_set_same (i := 2) h2 b2
    have h4 := heap_set_same (i := 3) h3 b3
    have h5 := heap_set_same (i := 4) h4 b4
    have h6 := heap_set_same (i := 5) h5 b5
    exact h6
  · iterate 6 (refine Below.setCell ?_ hq _)
    exact hb
theorem one_live {wq w6 : World} {base : Nat} {it : Cal.Item} {A : Option Addr} {n c : Nat} {cs : Array Value} {t : TypeId} (hd : pItemN base (.agg #[.int .i64 (it.kind : Nat), .bool it.neg, .slice A n c, .int .i64 it.k, .int .i64 it.big, .bool it.cut]) it w6)
    (hb : Below wq.heap.size wq w6) : pT (.slice A n c) 2000 it.d (w6.alloc (.cells cs t)) ∧ pBlk w6.heap.size cs t (w6.alloc (.cells cs t)) ∧ Below wq.heap.size wq (w6.alloc (.cells cs t)) :=
  ⟨(pT_st _ _ _) _ _ (pItem_again hd.item) ((Below.refl _ _).alloc (Nat.le_refl _) _), pBlk_made _ _ _, hb.alloc hb.size _⟩
end Go.Proofs.YtlpcfbilembilaaDoor
