/- The laws of Scan: texts put together, and what they are. Conditions: none. -/
/- Exact numbers: Right, Dec, size, scaled, walked. Conditions: none. -/
import Derived.Test.YtdlkfnkmdlcekaaGreatDoorFo21
import Derived.Test.YtdlkfnkmdlcekaaGreatDoorFo17
import Derived.Test.YtdlkfnkmdlcekaaGreatDoorFo02
namespace Go.Proofs.YtdlkfnkmdlcekaaGreatDoor
open Go.RowKit Go.Cal
theorem itemOf_of {l : List UInt8} {it : Cal.Item} (h1 : (textS l).1 = true) (h2 : textV 1125899906842624 l = it) : itemOf l = it := by
  unfold itemOf
  rw [if_pos h1, h2]
theorem numT_nat (x : Nat) : numT (x : Int) = Lib.decDigits x := by
  unfold numT
  rw [if_neg (by omega)]
  rfl
section
variable (W P : List UInt8) (hW : ∀ c ∈ W, isDig c = true) (hP : ∀ c ∈ P, isDig c = true) (x : Nat) (hx : x ≤ 2000) (z : Nat)
include hW hP hx
theorem case_ta : itemOf ((W ++ [48, 46] ++ P) ++ [101] ++ Lib.decDigits x) = itemV false (W ++ [48] ++ P) ((x : Int) - (P.length : Int)) := by
  obtain ⟨e1, e2⟩ := exp_low (C := 1125899906842624) 0 x (by omega)
  obtain ⟨t1, t2⟩ := case_num W P hW hP 1125899906842624 _ e1
  rw [e2] at t2
  have e : (W ++ [48, 46] ++ P) ++ [101] ++ Lib.decDigits x = (W ++ [48]) ++ 46 :: (P ++ 101 :: (List.replicate 0 48 ++ Lib.decDigits x)) := by simp
  rw [e]
  exact itemOf_of t1 t2
theorem case_tb : itemOf ((W ++ [48, 46] ++ P) ++ [69, 43] ++ List.replicate z 48 ++ Lib.decDigits x) = itemV false (W ++ [48] ++ P) ((x : Int) - (P.length : Int)) := by
  obtain ⟨e1, e2⟩ := exp_plus (C := 1125899906842624) z x (by omega)
  obtain ⟨t1, t2⟩ := case_num W P hW hP 1125899906842624 _ e1
  rw [e2] at t2
  have e : (W ++ [48, 46] ++ P) ++ [69, 43] ++ List.replicate z 48 ++ Lib.decDigits x = (W ++ [48]) ++ 46 :: (P ++ 69 :: 43 :: (List.replicate z 48 ++ Lib.decDigits x)) := by simp
  rw [e]
  exact itemOf_of t1 t2
theorem case_tc : itemOf ([48, 48] ++ (W ++ [48, 46] ++ P) ++ [48, 48, 101] ++ List.replicate z 48 ++ Lib.decDigits x) = itemV false (W ++ [48] ++ P) ((x : Int) - (P.length : Int)) := by
  obtain ⟨e1, e2⟩ := exp_low (C := 1125899906842624) z x (by omega)
  obtain ⟨t1, t2⟩ := case_wide W P hW hP 1125899906842624 _ e1
  rw [e2] at t2
  have e : [48, 48] ++ (W ++ [48, 46] ++ P) ++ [48, 48, 101] ++ List.replicate z 48 ++ Lib.decDigits x = ([48, 48] ++ (W ++ [48])) ++ 46 :: ((P ++ [48, 48]) ++ 101 :: (List.replicate z 48 ++ Lib.decDigits x)) := by simp
  rw [e]
  exact itemOf_of t1 t2
theorem case_td : itemOf ((W ++ [48, 46] ++ P) ++ [101, 45] ++ List.replicate z 48 ++ Lib.decDigits x) = itemV false (W ++ [48] ++ P) (-(x : Int) - (P.length : Int)) := by
  obtain ⟨e1, e2⟩ := exp_less (C := 1125899906842624) (e := 101) (.inl rfl) z x (by omega)
  obtain ⟨t1, t2⟩ := case_num W P hW hP 1125899906842624 _ e1
  rw [e2] at t2
  have e : (W ++ [48, 46] ++ P) ++ [101, 45] ++ List.replicate z 48 ++ Lib.decDigits x = (W ++ [48]) ++ 46 :: (P ++ 101 :: 45 :: (List.replicate z 48 ++ Lib.decDigits x)) := by simp
  rw [e]
  exact itemOf_of t1 t2
theorem case_tf : itemOf ((W ++ [48, 46] ++ P) ++ [69, 45] ++ Lib.decDigits x) = itemV false (W ++ [48] ++ P) (-(x : Int) - (P.length : Int)) := by
  obtain ⟨e1, e2⟩ := exp_less (C := 1125899906842624) (e := 69) (.inr rfl) 0 x (by omega)
  obtain ⟨t1, t2⟩ := case_num W P hW hP 1125899906842624 _ e1
  rw [e2] at t2
  have e : (W ++ [48, 46] ++ P) ++ [69, 45] ++ Lib.decDigits x = (W ++ [48]) ++ 46 :: (P ++ 69 :: 45 :: (List.replicate 0 48 ++ Lib.decDigits x)) := by simp
  rw [e]
  exact itemOf_of t1 t2
end
theorem cat_l (a b : List UInt8) (B : ByteArray) (hB : B = strL b) (k : Nat) (hk : a.length + b.length ≤ k) : ∃ t, strL a ++ B = strL t ∧ Hid (t = a ++ b) ∧ (strL t).size = t.length ∧ t.length ≤ k :=
  ⟨a ++ b, by rw [hB, strL_app], Lib.hid rfl, strL_size _, by rw [List.length_append]; exact hk⟩
theorem cat_r (a b : List UInt8) (B : ByteArray) (hB : B = strL b) (k : Nat) (hk : b.length + a.length ≤ k) : ∃ t, B ++ strL a = strL t ∧ Hid (t = b ++ a) ∧ (strL t).size = t.length ∧ t.length ≤ k :=
  ⟨b ++ a, by rw [hB, strL_app], Lib.hid rfl, strL_size _, by rw [List.length_append]; exact hk⟩
/-- Digits behind what stands. -/
def digS (S l : List UInt8) (i : Nat) : List UInt8 := S ++ digT l i
theorem digS_len (S l : List UInt8) (i : Nat) : (digS S l i).length ≤ S.length + i := by unfold digS; rw [List.length_append]; have := digT_len l i; omega
theorem digS_step (S l : List UInt8) (i : Nat) (h : i < l.length) : strL (digS S l i) ++ strL [UInt8.ofNat (48 + (l.getD i 0).toNat % 10)] = strL (digS S l (i + 1)) := by
  unfold digS
  rw [← strL_app, ← strL_app, ← digT_step l i h]
  unfold strL
  apply ByteArray.ext
  simp
theorem dec_few (x : Nat) (h : x ≤ 1000000) : (Lib.decDigits x).length ≤ 20 := dec_len_bound (k := 20) (by omega) (by omega)
section
variable (D : List UInt8) (hD : ∀ c ∈ D, isDig c = true) (x : Int) (hx : -2000 ≤ x ∧ x ≤ 2000) (z m : Nat) (hm : m ≤ 40)
include hD hx
theorem same_ta : itemOf ((D ++ [55]) ++ [101] ++ numT x) = itemV false (D ++ [55]) x := by
  obtain ⟨t1, t2⟩ := same_a D hD 1125899906842624 x (by omega)
  have e : (D ++ [55]) ++ [101] ++ numT x = D ++ [55] ++ 101 :: numT x := by simp
  rw [e]
  exact itemOf_of t1 t2
include hm
theorem same_tb : itemOf (List.replicate z 48 ++ (D ++ [55]) ++ List.replicate m 48 ++ [46] ++ [101] ++ numT (x - m)) = itemV false (D ++ [55]) x := by
  obtain ⟨t1, t2⟩ := same_b D hD 1125899906842624 z m x (by omega)
  have e : List.replicate z 48 ++ (D ++ [55]) ++ List.replicate m 48 ++ [46] ++ [101] ++ numT (x - m) = List.replicate z 48 ++ (D ++ [55] ++ List.replicate m 48) ++ 46 :: ([] ++ 101 :: numT (x - m)) := by simp
  rw [e]
  exact itemOf_of t1 t2
theorem same_tc (hl : D.length ≤ 100) : itemOf ([48, 46] ++ List.replicate m 48 ++ (D ++ [55]) ++ [69] ++ numT (x + m + (D ++ [55]).length)) = itemV false (D ++ [55]) x := by
  obtain ⟨t1, t2⟩ := same_c D hD 1125899906842624 m x (by rw [List.length_append]; simp; omega)
  have e : [48, 46] ++ List.replicate m 48 ++ (D ++ [55]) ++ [69] ++ numT (x + m + (D ++ [55]).length) = [48] ++ 46 :: (List.replicate m 48 ++ (D ++ [55]) ++ 69 :: numT (x + m + (D ++ [55]).length)) := by simp
  rw [e]
  exact itemOf_of t1 t2
omit hm in
theorem same_td (hl : D.length ≤ 100) : itemOf ([46] ++ (D ++ [55]) ++ List.replicate m 48 ++ [101] ++ numT (x + (D ++ [55]).length)) = itemV false (D ++ [55]) x := by
  obtain ⟨t1, t2⟩ := same_d D hD 1125899906842624 m x (by rw [List.length_append]; simp; omega)
  have e : [46] ++ (D ++ [55]) ++ List.replicate m 48 ++ [101] ++ numT (x + (D ++ [55]).length) = [] ++ 46 :: ((D ++ [55] ++ List.replicate m 48) ++ 101 :: numT (x + (D ++ [55]).length)) := by simp
  rw [e]
  exact itemOf_of t1 t2
end
theorem numT_len (n : Int) (h : -100000 ≤ n ∧ n ≤ 100000) : (numT n).length ≤ 21 := by
  have := dec_few n.natAbs (by omega)
  unfold numT
  split
  · rw [List.length_cons]; omega
  · omega
theorem heap_set_same {w : World} {s i : Nat} {cs : Array Value} {t : TypeId} {fr : Nat × Nat} (h : w.heap[s]? = some (.cells cs t fr)) (v : Value) : (w.setCell ⟨s, i, none⟩ v).heap[s]? = some (.cells (cs.setIfInBounds i v) t fr) := Lib.heap_setCell_same (i := i) h v
theorem six_live {wq w6 : World} {s base : Nat} {it : Cal.Item} {A : Option Addr} {n c : Nat} {b0 b1 b2 b3 b4 b5 : Value} {a0 a1 a2 a3 a4 a5 : Value} {t : TypeId} (hd : pItemN base (.agg #[.int .i64 (it.kind : Nat), .bool it.neg, .slice A n c, .int .i64 it.k, .int .i64 it.big, .bool it.cut]) it w6)
    (hs : pBlk s #[a0, a1, a2, a3, a4, a5] t w6) (hsb : s < base) (hq : wq.heap.size ≤ s) (hb : Below wq.heap.size wq w6) :
    pT (.slice A n c) 2000 it.d ((((((w6.setCell ⟨s, 0, none⟩ b0).setCell ⟨s, 1, none⟩ b1).setCell ⟨s, 2, none⟩ b2).setCell ⟨s, 3, none⟩ b3).setCell ⟨s, 4, none⟩ b4).setCell ⟨s, 5, none⟩ b5) ∧
    pBlk s #[b0, b1, b2, b3, b4, b5] t ((((((w6.setCell ⟨s, 0, none⟩ b0).setCell ⟨s, 1, none⟩ b1).setCell ⟨s, 2, none⟩ b2).setCell ⟨s, 3, none⟩ b3).setCell ⟨s, 4, none⟩ b4).setCell ⟨s, 5, none⟩ b5) ∧
    Below wq.heap.size wq ((((((w6.setCell ⟨s, 0, none⟩ b0).setCell ⟨s, 1, none⟩ b1).setCell ⟨s, 2, none⟩ b2).setCell ⟨s, 3, none⟩ b3).setCell ⟨s, 4, none⟩ b4).setCell ⟨s, 5, none⟩ b5) := by
  refine ⟨?_, ?_, ?_⟩
  · have h1 := ((((((hd.setCell (p := ⟨s, 0, none⟩) b0 hsb).setCell (p := ⟨s, 1, none⟩) b1 hsb).setCell (p := ⟨s, 2, none⟩) b2 hsb).setCell (p := ⟨s, 3, none⟩) b3 hsb).setCell (p := ⟨s, 4, none⟩) b4 hsb).setCell (p := ⟨s, 5, none⟩) b5 hsb)
    exact pItem_again h1.item
  · have h0 : w6.heap[s]? = some (.cells #[a0, a1, a2, a3, a4, a5] t (0, 0)) := hs
    have h1 := heap_set_same (i := 0) h0 b0
    have h2 := heap_set_same (i := 1) h1 b1
    have h3 := heap_set_same (i := 2) h2 b2
    have h4 := heap_set_same (i := 3) h3 b3
    have h5 := heap_set_same (i := 4) h4 b4
    have h6 := heap_set_same (i := 5) h5 b5
    exact h6
  · iterate 6 (refine Below.setCell ?_ hq _)
    exact hb
theorem one_live {wq w6 : World} {base : Nat} {it : Cal.Item} {A : Option Addr} {n c : Nat} {cs : Array Value} {t : TypeId} (hd : pItemN base (.agg #[.int .i64 (it.kind : Nat), .bool it.neg, .slice A n c, .int .i64 it.k, .int .i64 it.big, .bool it.cut]) it w6)
    (hb : Below wq.heap.size wq w6) : pT (.slice A n c) 2000 it.d (w6.alloc (.cells cs t)) ∧ pBlk w6.heap.size cs t (w6.alloc (.cells cs t)) ∧ Below wq.heap.size wq (w6.alloc (.cells cs t)) :=
  ⟨(pT_st _ _ _) _ _ (pItem_again hd.item) ((Below.refl _ _).alloc (Nat.le_refl _) _), pBlk_made _ _ _, hb.alloc hb.size _⟩
end Go.Proofs.YtdlkfnkmdlcekaaGreatDoor
namespace Go.Proofs.YtdlkfnkmdlcekaaGreatDoor
open Go.RowKit Go.Cal
theorem xin_yes (n : Int) (h1 : -5000 ≤ n) (h2 : n ≤ 5000) (w : World) : Calls Tryz.prog 83 #[.int .i64 n] w fun e w' => e = .returned (.bool true) ∧ w = w' := by
  go_enter Tryz.func83, Tryz.ntmps83
  go_wp2
  go_ret
  exact ⟨rfl, rfl⟩
set_option maxRecDepth 100000 in
set_option maxHeartbeats 1000000 in
theorem xright_yes {w : World} {v : Value} {N : Nat} (neg : Bool) (t f : Int) (h : IsT w v 128 N) (ht : -5000 ≤ t ∧ t ≤ 5000) (hf : -5000 ≤ f ∧ f ≤ 5000) :
    Calls Tryz.prog 50 #[.agg #[.bool neg, v, .int .i64 t, .int .i64 f]] w fun e w' => e = .returned (.bool true) ∧ Below w.heap.size w w' := by
  obtain ⟨A, c, zs, rfl, rd, hc, hcm, hl, nr⟩ := h
  have hb0 := (Below.refl w.heap.size w).alloc (Nat.le_refl _) (.cells #[.bool neg, .slice A zs.length c, .int .i64 t, .int .i64 f] 56)
  obtain ⟨ht1, ht2⟩ := ht
  obtain ⟨hf1, hf2⟩ := hf
  by_cases h0 : zs = []
  · subst h0
    go_enter Tryz.func50, Tryz.ntmps50
    go_wp2_with fail
    refine (xin_yes t ht1 ht2 _).mono ?_
    rintro e w1 ⟨rfl, rfl⟩
    go_wp2_with fail
    refine (xin_yes f hf1 hf2 _).mono ?_
    rintro e w1 ⟨rfl, rfl⟩
    go_wp2
    go_ret
    exact ⟨rfl, hb0⟩
  · have hpos := List.length_pos_iff.2 h0
    obtain ⟨b, off, rfl, hbB, hcell⟩ := rd.at (i := 0) hpos
    obtain ⟨n, hn⟩ : ∃ n, zs.length = n := ⟨_, rfl⟩
    have hlast := nr.top h0
    have hx := hcell (n - 1) (by omega)
    have hxv : zs.getD (n - 1) 0 = zs.getLast h0 := by
      rw [List.getLast_eq_getElem, List.getD_eq_getElem?_getD, List.getElem?_eq_getElem (by omega)]
      simp [hn]
    rw [hxv] at hx
    obtain ⟨x, hxx⟩ : ∃ x, zs.getLast h0 = x := ⟨_, rfl⟩
    rw [hxx] at hx hlast
    rw [hn] at hc hl hb0 ⊢
    have hx' : (w.alloc (.cells #[.bool neg, .slice (some ⟨b, off, none⟩) n c, .int .i64 t, .int .i64 f] 56)).cell? ⟨b, off + (n - 1), none⟩ = some (.int .u64 (x : Nat)) := by
      rw [World.cell?_alloc_lt _ _ _ hbB]; exact hx
    have hn0 : 0 < n := by omega
    have hxn : ((x : Int) == 0) = false := by simpa using hlast
    have hxm : ((x : Int) != 0) = true := by simpa using hlast
    clear hxv hxx hcell rd nr hlast hn hpos
    go_enter Tryz.func50, Tryz.ntmps50
    go_wp2_with fail
    refine (xin_yes t ht1 ht2 _).mono ?_
    rintro e w1 ⟨rfl, rfl⟩
    go_wp2_with fail
    refine (xin_yes f hf1 hf2 _).mono ?_
    rintro e w1 ⟨rfl, rfl⟩
    go_wp2
    go_ret
    exact ⟨rfl, hb0⟩
theorem pBlk.setX {g : Nat} {cs : Array Value} {t : TypeId} {w : World} (h : pBlk g cs t w) (i : Nat) (u : Value) : pBlk g (cs.setIfInBounds i u) t (w.setCell ⟨g, i, none⟩ u) := Lib.heap_setCell_same (i := i) h u
theorem IsT.apartX {w : World} {v u : Value} {k N g i : Nat} {cs : Array Value} {t : TypeId} (h : IsT w v k N) (hp : pBlk g cs t w) (hy : ∀ x ∈ cs.toList, ∀ n, x ≠ .int .u64 n) : IsT (w.setCell ⟨g, i, none⟩ u) v k N := by
  obtain ⟨A, c, zs, h1, h2, h3⟩ := h
  refine ⟨A, c, zs, h1, ⟨?_, fun b off e j hj => ?_⟩, h3⟩
  · rw [size_setCell]; exact h2.place
  · have hc := h2.cells b off e j hj
    by_cases hb : b = g
    · subst hb
      exfalso
      rw [cell_of_row w b _ _ _ _ hp] at hc
      have hm : Value.int .u64 ((zs.getD j 0 : Nat) : Int) ∈ cs.toList := by
        have := Array.mem_of_getElem? hc
        simpa using this
      exact hy _ hm _ rfl
    · rw [World.cell?_setCell_other _ _ _ _ (fun e => hb (by injection e with e; exact e.symm))]
      exact hc
theorem isT_fitX {w : World} {v : Value} {k N : Nat} (h : IsT w v k N) (hN : N < 18446744073709551616 ^ 128) : IsT w v 128 N := by
  obtain ⟨A, c, zs, h1, h2, h3, h4, h5, h6⟩ := h
  exact ⟨A, c, zs, h1, h2, h3, h4, h6.length_le hN, h6⟩
theorem bits_b {w : World} {v : Value} {k N : Nat} (h : IsT w v k N) (hk : k ≤ 1048576 := by decide) :
    Calls Tryz.prog 128 #[v] w fun e w' => e = .returned (.int .i64 (blen N : Nat)) ∧ Below w.heap.size w w' := by
  obtain ⟨A1, c1, z1, rfl, r1, hc1, hl1, d1, nr⟩ := h
  refine (bits_any c1 w r1 hc1 (by omega) nr.dig).mono ?_
  rintro e w' ⟨he, rfl⟩
  rw [nr.val] at he
  exact ⟨he, Below.refl _ _⟩
set_option maxRecDepth 100000 in
set_option maxHeartbeats 1000000 in
theorem xdec_yes {w : World} {d : Value} {m N : Nat} (neg : Bool) (k : Int) (h : IsN w d m N) (hm : m ≤ 1048576) (hN : N < 18446744073709551616 ^ 128) (hk : -5000 ≤ k ∧ k ≤ 5000) :
    Calls Tryz.prog 27 #[.bool neg, d, .int .i64 k] w fun e w' => ∃ v, e = .returned (.tuple #[.agg #[.bool neg, v, .int .i64 k, .int .i64 k], .bool true]) ∧ IsT w' v 128 N ∧ Below w.heap.size w w' := by
  have hnm := Lib.hid (norm_t (h.below ((Below.refl _ _).alloc (Nat.le_refl _) (.cells #[.bool false, .slice none 0 0, .int .i64 0, .int .i64 0] 56))) hm)
  obtain ⟨A0, c0, z0, rfl, -⟩ := id h
  replace hN := Lib.hid hN
  clear h
  go_enter Tryz.func27, Tryz.ntmps27
  go_wp2_with fail
  refine hnm.out.mono ?_
  rintro e w1 ⟨v, rfl, hv, hb⟩
  obtain ⟨A, c, zs, rfl, -⟩ := id hv
  obtain ⟨n, hn⟩ : ∃ n, zs.length = n := ⟨_, rfl⟩
  rw [hn] at hv ⊢
  clear hn hnm
  have hv128 : IsT w1 (.slice A n c) 128 N := isT_fitX hv hN.out
  have hp := pBlk_st _ _ _ _ _ (pBlk_st _ _ _ _ _ (pBlk_made w #[.bool false, .slice none 0 0, .int .i64 0, .int .i64 0] 56) hb) ((Below.refl _ _).alloc (Nat.le_refl _) (.cells #[.bool neg, .slice A n c, .int .i64 k, .int .i64 k] 56))
  have hB : Below w.heap.size w w1 := ((Below.refl _ _).alloc (Nat.le_refl _) _).trans (hb.mono (by simp))
  have hz := hb.size
  simp at hz
  have hrt := Lib.hid (xright_yes neg k k (hv128.below ((Below.refl _ _).alloc (Nat.le_refl _) (.cells #[.bool neg, .slice A n c, .int .i64 k, .int .i64 k] 56))) hk hk)
  go_wp2_with fail
  refine hrt.out.mono ?_
  rintro e w2 ⟨rfl, hb2⟩
  have hp2 := pBlk_st _ _ _ _ _ hp hb2
  have hq2 := pBlk_st _ _ _ _ _ (pBlk_made w1 #[.bool neg, .slice A n c, .int .i64 k, .int .i64 k] 56) hb2
  have hv2 := (hv128.below ((Below.refl _ _).alloc (Nat.le_refl _) (.cells #[.bool neg, .slice A n c, .int .i64 k, .int .i64 k] 56))).below hb2
  have r0 := hp2.cell 0 _ rfl
  have s0 := hp2.free 0
  have q0 := hq2.cell 0 _ rfl
  have r1 := hp2.cell 1 _ rfl
  have s1 := hp2.free 1
  have q1 := hq2.cell 1 _ rfl
  have r2 := hp2.cell 2 _ rfl
  have s2 := hp2.free 2
  have q2 := hq2.cell 2 _ rfl
  have r3 := hp2.cell 3 _ rfl
  have s3 := hp2.free 3
  have q3 := hq2.cell 3 _ rfl
  have hB2 : Below w.heap.size w w2 := (hB.alloc hB.size _).trans (hb2.mono (by simp; omega))
  have hno : ∀ (a b c d : Value), (∀ n, a ≠ .int .u64 n) → (∀ n, b ≠ .int .u64 n) → (∀ n, c ≠ .int .u64 n) → (∀ n, d ≠ .int .u64 n) → ∀ x ∈ (#[a, b, c, d] : Array Value).toList, ∀ n, x ≠ .int .u64 n := by
    intro a b c d ha hb hc hd x hx
    simp at hx
    rcases hx with rfl | rfl | rfl | rfl <;> assumption
  have hvf := IsT.apartX (i := 3) (u := .int .i64 k) (IsT.apartX (i := 2) (u := .int .i64 k) (IsT.apartX (i := 1) (u := .slice A n c) (IsT.apartX (i := 0) (u := .bool neg) hv2 hp2 (hno _ _ _ _ (by simp) (by simp) (by simp) (by simp))) (hp2.setX 0 (.bool neg)) (hno _ _ _ _ (by simp) (by simp) (by simp) (by simp))) ((hp2.setX 0 (.bool neg)).setX 1 (.slice A n c)) (hno _ _ _ _ (by simp) (by simp) (by simp) (by simp))) (((hp2.setX 0 (.bool neg)).setX 1 (.slice A n c)).setX 2 (.int .i64 k)) (hno _ _ _ _ (by simp) (by simp) (by simp) (by simp))
  have hpf := (((hp2.setX 0 (.bool neg)).setX 1 (.slice A n c)).setX 2 (.int .i64 k)).setX 3 (.int .i64 k)
  have y0 := hpf.cell 0 _ rfl
  have y1 := hpf.cell 1 _ rfl
  have y2 := hpf.cell 2 _ rfl
  have y3 := hpf.cell 3 _ rfl
  clear hp hrt hp2 hq2 hv hv128 hno hv2 hpf
  go_wp2
  refine bodyPost_ret (v := .tuple #[.agg #[.bool neg, .slice A n c, .int .i64 k, .int .i64 k], .bool true]) (by simp [results, Tryz.results27, go_sem, y0, y1, y2, y3]) rfl ⟨_, rfl, hvf, ?_⟩
  exact (((hB2.setCell (p := ⟨w.heap.size, 0, none⟩) (Nat.le_refl _) _).setCell (p := ⟨w.heap.size, 1, none⟩) (Nat.le_refl _) _).setCell (p := ⟨w.heap.size, 2, none⟩) (Nat.le_refl _) _).setCell (p := ⟨w.heap.size, 3, none⟩) (Nat.le_refl _) _
/-- Where a size is within a word: no wrap. -/
theorem wrap64_idG {x : Int} (h1 : -9223372036854775808 ≤ x) (h2 : x ≤ 9223372036854775807) : wrap64 x = x := by
  unfold wrap64
  omega
theorem blen_bl (N : Nat) : blen N = bl N := rfl
theorem size_pure (N : Nat) (t f : Int) (hN : N < 18446744073709551616 ^ 128) (ht : -5000 ≤ t ∧ t ≤ 5000) (hf : -5000 ≤ f ∧ f ≤ 5000) : wrap64 (wrap64 ((blen N : Int) + t) + (f * 2321928095).tdiv 1000000000) = exS (blen N) t f := by
  have e : (18446744073709551616 : Nat) ^ 128 = 2 ^ 8192 := by decide +kernel
  have hb : blen N ≤ 8192 := by rw [blen_bl]; exact bl_iff.2 (e ▸ hN)
  have hl := lg_tdiv f
  have h1 : lg5 f.toNat ≤ 12000 := by unfold lg5; omega
  have h2 : lg5 (-f).toNat ≤ 12000 := by unfold lg5; omega
  unfold exS
  generalize (f * 2321928095).tdiv 1000000000 = q at hl ⊢
  rw [wrap64_idG (x := (blen N : Int) + t) (by omega) (by omega), wrap64_idG (by omega) (by omega)]
set_option maxRecDepth 100000 in
set_option maxHeartbeats 1000000 in
theorem xsize_any {w : World} {v : Value} {N : Nat} (neg : Bool) (t f : Int) (h : IsT w v 128 N) (ht : -5000 ≤ t ∧ t ≤ 5000) (hf : -5000 ≤ f ∧ f ≤ 5000) :
    Calls Tryz.prog 129 #[.agg #[.bool neg, v, .int .i64 t, .int .i64 f]] w fun e w' => e = .returned (.int .i64 (exS (blen N) t f)) ∧ Below w.heap.size w w' := by
  obtain ⟨A0, c0, z0, rfl, -⟩ := id h
  obtain ⟨n, hn⟩ : ∃ n, z0.length = n := ⟨_, rfl⟩
  rw [hn] at h ⊢
  clear hn
  have hsz := Lib.hid (size_pure N t f h.isN.lt ht hf)
  obtain ⟨hf1, hf2⟩ := hf
  have c0' := fun (u : Later (w.heap.size + 1) (w.alloc (.cells #[.bool neg, .slice A0 n c0, .int .i64 t, .int .i64 f] 56))) => u.cell w.heap.size 1 (.slice A0 n c0) (by omega) (by simp)
  have c1' := fun (u : Later (w.heap.size + 1) (w.alloc (.cells #[.bool neg, .slice A0 n c0, .int .i64 t, .int .i64 f] 56))) => u.cell w.heap.size 2 (.int .i64 t) (by omega) (by simp)
  have c2' := fun (u : Later (w.heap.size + 1) (w.alloc (.cells #[.bool neg, .slice A0 n c0, .int .i64 t, .int .i64 f] 56))) => u.cell w.heap.size 3 (.int .i64 f) (by omega) (by simp)
  have hbt := Lib.hid fun (u : Later (w.heap.size + 1) (w.alloc (.cells #[.bool neg, .slice A0 n c0, .int .i64 t, .int .i64 f] 56))) => bits_b (h.below (((Below.refl _ _).alloc (Nat.le_refl _) _).trans (u.prop.mono (by omega))))
  go_enter Tryz.func129, Tryz.ntmps129
  go_wp2_with fail
  refine wp_region_later (B := w.heap.size + 1) (by kernel_rfl) (by kernel_rfl) (Below.refl _ _) ?_
  repeat (go_big_quiet_step ((go_at_call 128; exact Calls.later_of (by simp) (hbt.out _))))
  refine wpQuiet_nil ?_
  intro w2 hb2
  go_wp2
  rw [hsz.out]
  go_ret
  exact ⟨rfl, ((Below.refl _ _).alloc (Nat.le_refl _) _).trans (hb2.mono (by omega))⟩
/-- The powers of five in at most two steps. -/
theorem five_steps (f : Int) (h : f ≤ 10000) : (f ≤ 0 ∧ f.toNat = 0) ∨ (0 < f ∧ f ≤ 5000 ∧ (min (max f 0) 10000).toNat = f.toNat) ∨ (5000 < f ∧ f - 5000 ≤ 5000 ∧ f.toNat = 5000 + (f - 5000).toNat ∧ (min (max (f - 5000) 0) 10000).toNat = (f - 5000).toNat) := by omega
theorem shl_bnd (k X s m : Nat) (hX : X < 18446744073709551616 ^ k) (hs : s ≤ 64 * m) : X * 2 ^ s < 18446744073709551616 ^ (k + m) := by
  have h1 : X * 2 ^ s < 18446744073709551616 ^ k * 2 ^ s := Nat.mul_lt_mul_of_pos_right hX (Nat.two_pow_pos _)
  have h2 : 2 ^ s ≤ 2 ^ (64 * m) := Nat.pow_le_pow_right (by decide) hs
  have h3 : (2 : Nat) ^ (64 * m) = 18446744073709551616 ^ m := by rw [Nat.pow_mul]
  rw [Nat.pow_add, ← h3]
  exact Nat.lt_of_lt_of_le h1 (Nat.mul_le_mul_left _ h2)
theorem less_words {X k m : Nat} (h : X < 18446744073709551616 ^ k) (hk : k ≤ m) : X < 18446744073709551616 ^ m := Nat.lt_of_lt_of_le h (Nat.pow_le_pow_right (by decide) hk)
set_option maxRecDepth 100000 in
set_option maxHeartbeats 1000000 in
theorem xscaled_any {w : World} {v : Value} {N : Nat} (m : Nat) (hm : 12178 ≤ m) (two five : Int) (h : IsN w v 128 N) (h2 : two ≤ 131072) (h5 : five ≤ 10000) :
    Calls Tryz.prog 153 #[v, .int .i64 two, .int .i64 five] w (TellsT w m (exP N two five)) := by
  obtain ⟨s, hs⟩ : ∃ s : Nat, (min (max (max two 0) 0) 131072).toNat = s := ⟨_, rfl⟩
  have hs2 : two.toNat = s := by omega
  have hsl : s ≤ 131072 := by omega
  have hP : exP N two five = N * 5 ^ five.toNat * 2 ^ s := by unfold exP; rw [hs2]
  rw [hP]
  have hmn : min five 20000 = five := by omega
  rcases five_steps five h5 with ⟨f0, f1⟩ | ⟨f0, f1, f2⟩ | ⟨f0, f1, f2, f3⟩
  · rw [f1, Nat.pow_zero, Nat.mul_one]
    have hsh := Lib.hid fun (w' : World) (h' : IsN w' v 128 N) => shl_t (max two 0) m (N * 2 ^ s) h' (by decide) (by rw [hs]) (less_words (shl_bnd 128 N s 2048 h'.lt (by omega)) (by omega))
    clear hP hs2 f1
    go_enter Tryz.func153, Tryz.ntmps153
    go_wp2
    refine wp_loop_rounds 1 ?_
    rw [rounds_succ]
    go_wp2_with fail
    refine (hsh.out _ h).mono ?_
    rintro e w1 ⟨v1, rfl, hv1, hb1⟩
    go_wp2
    go_ret
    exact ⟨_, rfl, hv1, hb1⟩
  · have hpw := Lib.hid fun w' => pow_t w' 5 (by decide) five five.toNat f2
    have hm5 : min five 5000 = five := by omega
    obtain ⟨F, hF⟩ : ∃ F, five.toNat = F := ⟨_, rfl⟩
    rw [hF] at hpw ⊢
    have hFl : F ≤ 5000 := by omega
    clear hP hs2 hF f2
    go_enter Tryz.func153, Tryz.ntmps153
    go_wp2
    refine wp_loop_rounds 2 ?_
    rw [rounds_succ]
    go_wp2_with fail
    refine (hpw.out _).mono ?_
    rintro e w1 ⟨v1, rfl, hv1, hb1⟩
    go_wp2_with fail
    refine (mul_t (h.below hb1) (IsT.isN hv1) (by decide) (by omega)).mono ?_
    rintro e w2 ⟨v2, rfl, hv2, hb2⟩
    have hn2 : IsN w2 v2 (128 + (F + 1)) (N * 5 ^ F) := IsT.isN hv2
    go_wp2_with fail
    rw [rounds_succ]
    go_wp2_with fail
    refine (shl_t (max two 0) m (N * 5 ^ F * 2 ^ s) hn2 (by omega) (by rw [hs]) (less_words (shl_bnd _ _ s 2048 hn2.lt (by omega)) (by omega))).mono ?_
    rintro e w3 ⟨v3, rfl, hv3, hb3⟩
    go_wp2
    go_ret
    exact ⟨_, rfl, hv3, (hb1.trans (hb2.mono hb1.size)).trans (hb3.mono (Nat.le_trans hb1.size hb2.size))⟩
  · obtain ⟨p5, hp5⟩ : ∃ p : Nat, p = 5000 := ⟨_, rfl⟩
    have hpw := Lib.hid fun w' => pow_t w' 5 (by decide) 5000 p5 (by rw [hp5]; decide)
    rw [← hp5] at f2
    have hpw2 := Lib.hid fun w' => pow_t w' 5 (by decide) (five - 5000) (five - 5000).toNat f3
    have hm5 : min five 5000 = 5000 := by omega
    have hm6 : min (five - 5000) 5000 = five - 5000 := by omega
    obtain ⟨F, hF⟩ : ∃ F, (five - 5000).toNat = F := ⟨_, rfl⟩
    rw [f2]
    rw [hF] at hpw2 ⊢
    have hFl : F ≤ 5000 := by omega
    rw [Nat.pow_add, ← Nat.mul_assoc]
    clear hP hs2 hF f2 f3
    obtain ⟨G, hG⟩ : ∃ G, 5 ^ p5 = G := ⟨_, rfl⟩
    rw [hG] at hpw ⊢
    clear hG
    go_enter Tryz.func153, Tryz.ntmps153
    go_wp2
    refine wp_loop_rounds 3 ?_
    rw [rounds_succ]
    go_wp2_with fail
    refine (hpw.out _).mono ?_
    rintro e w1 ⟨v1, rfl, hv1, hb1⟩
    go_wp2_with fail
    refine (mul_t (h.below hb1) (IsT.isN hv1) (by decide) (by omega)).mono ?_
    rintro e w2 ⟨v2, rfl, hv2, hb2⟩
    have hn2 : IsN w2 v2 (128 + (p5 + 1)) (N * G) := IsT.isN hv2
    go_wp2_with fail
    rw [rounds_succ]
    go_wp2_with fail
    refine (hpw2.out _).mono ?_
    rintro e w3 ⟨v3, rfl, hv3, hb3⟩
    go_wp2_with fail
    refine (mul_t (hn2.below hb3) (IsT.isN hv3) (by omega) (by omega)).mono ?_
    rintro e w4 ⟨v4, rfl, hv4, hb4⟩
    have hn4 : IsN w4 v4 (128 + (p5 + 1) + (F + 1)) (N * G * 5 ^ F) := IsT.isN hv4
    go_wp2_with fail
    rw [rounds_succ]
    go_wp2_with fail
    refine (shl_t (max two 0) m (N * G * 5 ^ F * 2 ^ s) hn4 (by omega) (by rw [hs]) (less_words (shl_bnd _ _ s 2048 hn4.lt (by omega)) (by omega))).mono ?_
    rintro e w5 ⟨v5, rfl, hv5, hb5⟩
    go_wp2
    go_ret
    have hB2 := hb1.trans (hb2.mono hb1.size)
    have hB4 := (hB2.trans (hb3.mono hB2.size)).trans (hb4.mono (Nat.le_trans hB2.size hb3.size))
    exact ⟨_, rfl, hv5, hB4.trans (hb5.mono hB4.size)⟩
end Go.Proofs.YtdlkfnkmdlcekaaGreatDoor
