/- The quire: what is done with it, and its bits lie where nobody else writes. Conditions: the variables that values read. -/
import Derived.Test.YtobokaafmcfeaaaGreatDoorSk29
namespace Go.Proofs.YtobokaafmcfeaaaGreatDoor
open Go.RowKit Go.Cal
/-- No words, or words in no block of F. -/
def Off (F : Nat → Prop) (A : Option Addr) (n : Nat) : Prop := n = 0 ∨ ∃ b off, A = some ⟨b, off, none⟩ ∧ ¬ F b
theorem Fre.off {F : Nat → Prop} {w : World} {B n : Nat} {A : Option Addr} (h : Fre B A n) (hF : ∀ b, F b → b < w.heap.size) (hB : w.heap.size ≤ B) : Off F A n :=
  h.imp id fun ⟨b, off, e, h1⟩ => ⟨b, off, e, fun hb => by have := hF b hb; omega⟩
def QuF (F : Nat → Prop) (g : Nat) (id : Int) (N : Nat) (w : World) : Prop := ∃ A n c, pBlk g #[.int .i64 (fK id), .int .i64 (fW id), .int .i64 (fM id), .int .i64 (fB id), .int .u64 (fT id), .int .u64 (fI id), .int .u64 (fN id), .int .i64 id, .slice A n c] 135 w ∧ IsT w (.slice A n c) 16 N ∧ Off F A n
theorem QuF.S {F : Nat → Prop} {g : Nat} {id : Int} {N : Nat} {w : World} (h : QuF F g id N w) : QuS g id N w := by
  obtain ⟨A, n, c, hp, hv, -⟩ := h
  exact ⟨A, n, c, hp, hv⟩
theorem QuF.below {F : Nat → Prop} {g : Nat} {id : Int} {N : Nat} {w w' : World} (h : QuF F g id N w) (hb : Below w.heap.size w w') : QuF F g id N w' := by
  obtain ⟨A, n, c, hp, hv, ho⟩ := h
  exact ⟨A, n, c, pBlk_st _ _ _ _ _ hp hb, hv.below hb, ho⟩
theorem QuF.lt {F : Nat → Prop} {g : Nat} {id : Int} {N : Nat} {w : World} (h : QuF F g id N w) : g < w.heap.size := h.S.lt
theorem QuS.zero {F : Nat → Prop} {g : Nat} {id : Int} {w : World} (h : QuS g id 0 w) : QuF F g id 0 w := by
  obtain ⟨A, n, c, hp, hv⟩ := h
  rcases isT_zero hv with ⟨z1, -⟩ | ⟨-, z2⟩
  · exact ⟨A, n, c, hp, hv, .inl z1⟩
  · omega
theorem stored_o {F : Nat → Prop} {w : World} {A A1 : Option Addr} {n c n1 c1 g X : Nat} {id : Int} (hp : pBlk g #[.int .i64 (fK id), .int .i64 (fW id), .int .i64 (fM id), .int .i64 (fB id), .int .u64 (fT id), .int .u64 (fI id), .int .u64 (fN id), .int .i64 id, .slice A n c] 135 w) (hv : IsT w (.slice A1 n1 c1) 16 X) (ho : Off F A1 n1) :
    QuF F g id X (w.setCell ⟨g, 8, none⟩ (.slice A1 n1 c1)) ∧ Mut g w (w.setCell ⟨g, 8, none⟩ (.slice A1 n1 c1)) := by
  have hm := Mut.set (i := 8) hp (.slice A1 n1 c1) (.slice A n c) rfl (by simp)
  exact ⟨⟨A1, n1, c1, hp.setX 8 _, hv.mut hm, ho⟩, hm⟩
theorem clear_o {F : Nat → Prop} {w : World} {g X : Nat} {id : Int} (h : QuF F g id X w) : Calls Tryz.prog 32 #[.pointer (some ⟨g, 0, none⟩)] w fun e w' => e = .returned (.tuple #[]) ∧ QuF F g id 0 w' ∧ Mut g w w' :=
  (clear_q h.S).mono fun _ _ ⟨he, hq, hm⟩ => ⟨he, hq.zero, hm⟩
section
variable {w W W' : World} {A : Option Addr} {n c X g : Nat} {id : Int}
set_option maxRecDepth 100000 in
set_option maxHeartbeats 1000000 in
theorem power_f (n : Nat) (hn : n ≤ 1100) (w : World) : Calls Tryz.prog 182 #[.int .i64 (n : Nat)] w fun e w' => ∃ A n' c, e = .returned (.slice A n' c) ∧ IsT w' (.slice A n' c) 18 (2 ^ n) ∧ Fre w.heap.size A n' ∧ Below w.heap.size w w' := by
  go_enter Tryz.func182, Tryz.ntmps182
  go_wp2_with fail
  refine (of_t w 1 (by decide)).mono ?_
  rintro e w1 ⟨v, rfl, hv, hb⟩
  go_wp2_with fail
  refine (shl_f (n : Int) 18 (2 ^ n) (IsT.isN hv) (by decide) (by rw [Nat.one_mul]; congr 1; omega) (two_word (by omega))).mono ?_
  rintro e w2 ⟨A2, n2, c2, rfl, hv2, hf2, hb2⟩
  go_wp2
  go_ret
  exact ⟨_, _, _, rfl, hv2, hf2.more hb.size, hb.trans (hb2.mono hb.size)⟩
set_option maxRecDepth 100000 in
set_option maxHeartbeats 1000000 in
theorem qnar_f (h1 : 1 ≤ id) (h4 : id ≤ 4) (hc : W.cell? ⟨g, 1, none⟩ = some (.int .i64 (fW id))) : Calls Tryz.prog 178 #[.pointer (some ⟨g, 0, none⟩)] W fun e w' => ∃ A n' c', e = .returned (.slice A n' c') ∧ IsT w' (.slice A n' c') 18 (quN id) ∧ Fre W.heap.size A n' ∧ Below W.heap.size W w' := by
  have hsz := Lib.hid (qsz_q h1 h4 hc)
  obtain ⟨s1, s2, -⟩ := quS_bnd h1 h4
  obtain ⟨S, hS⟩ : ∃ S, quS id = S + 1 := ⟨quS id - 1, by omega⟩
  have hN : quN id = 2 ^ S := by unfold quN; rw [hS]; rfl
  rw [hN]
  rw [hS] at hsz s1 s2
  have hpw := Lib.hid fun w => power_f S (by omega) w
  clear hS hN hc
  go_enter Tryz.func178, Tryz.ntmps178
  go_wp2_with fail
  refine hsz.out.mono ?_
  rintro e w1 ⟨rfl, rfl⟩
  go_wp2_with fail
  refine (hpw.out _).mono ?_
  rintro e w2 ⟨A2, n2, c2, rfl, hv2, hf2, hb2⟩
  go_wp2
  go_ret
  exact ⟨_, _, _, rfl, hv2, hf2, hb2⟩
end
set_option maxRecDepth 100000 in
set_option maxHeartbeats 1000000 in
theorem neg_o {F : Nat → Prop} {w : World} (hF : ∀ b, F b → b < w.heap.size) {g X : Nat} {id : Int} (h1 : 1 ≤ id) (h4 : id ≤ 4) (hX : X < 2 ^ quS id) (h : QuF F g id X w) : Calls Tryz.prog 35 #[.pointer (some ⟨g, 0, none⟩)] w fun e w' => e = .returned (.tuple #[]) ∧ QuF F g id (quNg id X) w' ∧ Mut g w w' := by
  obtain ⟨A, n, c, hp, hv, ho⟩ := h
  have hL : LiveP w w [pT (.slice A n c) 16 X, pBlk g #[.int .i64 (fK id), .int .i64 (fW id), .int .i64 (fM id), .int .i64 (fB id), .int .u64 (fT id), .int .u64 (fI id), .int .u64 (fN id), .int .i64 id, .slice A n c] 135] := ((LiveP.start w).put (pBlk_st g #[.int .i64 (fK id), .int .i64 (fW id), .int .i64 (fM id), .int .i64 (fB id), .int .u64 (fT id), .int .u64 (fI id), .int .u64 (fN id), .int .i64 id, .slice A n c] 135) hp).put (pT_st (.slice A n c) 16 X) hv
  have hin := Lib.hid (isnar_q h1 h4 hL)
  by_cases hN : X = quN id
  · rw [decide_eq_true hN] at hin
    have hr : quNg id X = X := by unfold quNg; rw [if_pos hN]
    rw [hr]
    clear hr hN
    go_enter Tryz.func35, Tryz.ntmps35
    go_wp2_with fail
    refine hin.out.mono ?_
    rintro e w1 ⟨rfl, hb⟩
    go_wp2
    simp [bodyPost, results, Tryz.results35]
    exact ⟨QuF.below ⟨A, n, c, hp, hv, ho⟩ hb, Mut.of hb⟩
  · rw [decide_eq_false hN] at hin
    have hr : quNg id X = quT id X := by unfold quNg; rw [if_neg hN]
    have hT := quT_lt (id := id) hX
    have htu := Lib.hid fun (w' : World) (hl : LiveP w w' [pT (.slice A n c) 16 X, pBlk g #[.int .i64 (fK id), .int .i64 (fW id), .int .i64 (fM id), .int .i64 (fB id), .int .u64 (fT id), .int .u64 (fI id), .int .u64 (fN id), .int .i64 id, .slice A n c] 135]) => turned_f h1 h4 (by decide) hX (hl.get (P := pT (.slice A n c) 16 X) (by repeat (first | exact List.mem_cons_self | apply List.mem_cons_of_mem))) (boxQ hl).2.2.1
    rw [hr]
    clear hr hN
    go_enter Tryz.func35, Tryz.ntmps35
    go_wp2_with fail
    refine hin.out.mono ?_
    rintro e w1 ⟨rfl, hb⟩
    have hL1 := hL.go hb
    obtain ⟨-, hg, -, c8⟩ := boxQ hL1
    go_wp2_with fail
    refine (htu.out _ hL1).mono ?_
    rintro e w2 ⟨A2, n2, c2, rfl, hv2, hf2, hb2⟩
    have hL2 := hL1.go hb2
    have hp2 := hL2.get (P := pBlk g #[.int .i64 (fK id), .int .i64 (fW id), .int .i64 (fM id), .int .i64 (fB id), .int .u64 (fT id), .int .u64 (fI id), .int .u64 (fN id), .int .i64 id, .slice A n c] 135) (by repeat (first | exact List.mem_cons_self | apply List.mem_cons_of_mem))
    obtain ⟨hq, hm⟩ := stored_o hp2 (quire_word h1 h4 hT hv2) (hf2.off hF hL1.size)
    have d8 := hp2.cell 8 _ rfl
    have f8 := hp2.free 8
    have hg2 := hp2.lt
    have hB2 := hL2.below
    clear hg c8
    go_wp2
    simp [bodyPost, results, Tryz.results35]
    exact ⟨hq, (Mut.of hB2).trans hm⟩
set_option maxRecDepth 100000 in
set_option maxHeartbeats 2000000 in
/-- A sum, cut to the bits. -/
theorem sum_o {F : Nat → Prop} {w : World} (hF : ∀ b, F b → b < w.heap.size) {A1 : Option Addr} {n1 c1 g X Y : Nat} {id : Int} (h1 : 1 ≤ id) (h4 : id ≤ 4) (hX : X < 2 ^ quS id) (hY : Y < 2 ^ quS id) (h : QuF F g id X w) (hb : IsT w (.slice A1 n1 c1) 20 Y) :
    Calls Tryz.prog 179 #[.pointer (some ⟨g, 0, none⟩), .slice A1 n1 c1] w fun e w' => e = .returned (.tuple #[]) ∧ QuF F g id (quAdd id X Y) w' ∧ Mut g w w' := by
  obtain ⟨A, n, c, hp, hv, ho⟩ := h
  have hL : LiveP w w [pT (.slice A n c) 16 X, pBlk g #[.int .i64 (fK id), .int .i64 (fW id), .int .i64 (fM id), .int .i64 (fB id), .int .u64 (fT id), .int .u64 (fI id), .int .u64 (fN id), .int .i64 id, .slice A n c] 135] := ((LiveP.start w).put (pBlk_st g #[.int .i64 (fK id), .int .i64 (fW id), .int .i64 (fM id), .int .i64 (fB id), .int .u64 (fT id), .int .u64 (fI id), .int .u64 (fN id), .int .i64 id, .slice A n c] 135) hp).put (pT_st (.slice A n c) 16 X) hv
  obtain ⟨s1, s2, -⟩ := quS_bnd h1 h4
  have had := Lib.hid (add_f (IsT.isN hv) (IsT.isN hb) (by decide) (by decide))
  have hsz := Lib.hid fun (w' : World) (hl : LiveP w w' [pT (.slice A n c) 16 X, pBlk g #[.int .i64 (fK id), .int .i64 (fW id), .int .i64 (fM id), .int .i64 (fB id), .int .u64 (fT id), .int .u64 (fI id), .int .u64 (fN id), .int .i64 id, .slice A n c] 135]) => qsz_q h1 h4 (boxQ hl).2.2.1
  have hr := quAdd_lt hX hY
  have hra : quAdd id X Y = if 2 ^ quS id ≤ X + Y then X + Y - 2 ^ quS id else X + Y := rfl
  have hfin := fun (w' : World) (v : Value) (k N : Nat) (hN : N = quAdd id X Y) (x : IsT w' v k N) => quire_word h1 h4 (hN ▸ hr) (v := v) (w := w') (hN ▸ x : IsT w' v k N)
  obtain ⟨_, _, _, d8⟩ := boxQ hL
  by_cases hov : 2 ^ quS id ≤ X + Y
  · rw [if_pos hov] at hra
    obtain ⟨S, hS⟩ : ∃ S, quS id = S := ⟨_, rfl⟩
    rw [hS] at hsz hov hra s2
    have hpw := Lib.hid fun w => power_t S (by omega) w
    have hsb := Lib.hid fun (w : World) (v1 v2 : Value) (a : IsT w v1 21 (X + Y)) (b : IsT w v2 18 (2 ^ S)) => sub_f (IsT.isN a) (IsT.isN b) (by decide) (by decide) hov
    clear hX hY hr hS s1 s2
    go_enter Tryz.func179, Tryz.ntmps179
    go_wp2_with fail
    refine had.out.mono ?_
    rintro e w1 ⟨A0, n0, c0, rfl, hv1, hf1, hb1⟩
    have hL1 := hL.go hb1
    go_wp2_with fail
    refine (hsz.out _ hL1).mono ?_
    rintro e w2 ⟨rfl, rfl⟩
    go_wp2_with fail
    refine (hpw.out _).mono ?_
    rintro e w3 ⟨v3, rfl, hv3, hb3⟩
    have hL3 := hL1.go hb3
    go_wp2_with fail
    refine (hsb.out _ _ _ (IsT.below hv1 hb3) hv3).mono ?_
    rintro e w4 ⟨A4, n4, c4, rfl, hv4, hf4, hb4⟩
    have hL4 := hL3.go hb4
    have hp4 := hL4.get (P := pBlk g #[.int .i64 (fK id), .int .i64 (fW id), .int .i64 (fM id), .int .i64 (fB id), .int .u64 (fT id), .int .u64 (fI id), .int .u64 (fN id), .int .i64 id, .slice A n c] 135) (by repeat (first | exact List.mem_cons_self | apply List.mem_cons_of_mem))
    have h16 := hfin _ _ _ _ hra.symm hv4
    obtain ⟨hq, hm⟩ := stored_o hp4 h16 (hf4.off hF hL3.size)
    have e8 := hp4.cell 8 _ rfl
    have f8 := hp4.free 8
    have hg4 := hp4.lt
    have hB4 := hL4.below
    go_wp2
    simp [bodyPost, results, Tryz.results179]
    exact ⟨by rw [hra]; exact hq, (Mut.of hB4).trans hm⟩
  · rw [if_neg hov] at hra
    obtain ⟨S, hS⟩ : ∃ S, quS id = S := ⟨_, rfl⟩
    rw [hS] at hsz hov s2
    have hpw := Lib.hid fun w => power_t S (by omega) w
    have hsb := Lib.hid fun (w : World) (v1 v2 : Value) (a : IsT w v1 21 (X + Y)) (b : IsT w v2 18 (2 ^ S)) => sub_n (IsT.isN a) (IsT.isN b) (by decide) (by decide) (Nat.lt_of_not_le hov)
    clear hX hY hr hS s1 s2
    go_enter Tryz.func179, Tryz.ntmps179
    go_wp2_with fail
    refine had.out.mono ?_
    rintro e w1 ⟨A4, n4, c4, rfl, hv1, hf1, hb1⟩
    have hL1 := hL.go hb1
    go_wp2_with fail
    refine (hsz.out _ hL1).mono ?_
    rintro e w2 ⟨rfl, rfl⟩
    go_wp2_with fail
    refine (hpw.out _).mono ?_
    rintro e w3 ⟨v3, rfl, hv3, hb3⟩
    have hL3 := hL1.go hb3
    go_wp2_with fail
    refine (hsb.out _ _ _ (IsT.below hv1 hb3) hv3).mono ?_
    rintro e w4 ⟨rfl, hb4⟩
    have hL4 := hL3.go hb4
    have hp4 := hL4.get (P := pBlk g #[.int .i64 (fK id), .int .i64 (fW id), .int .i64 (fM id), .int .i64 (fB id), .int .u64 (fT id), .int .u64 (fI id), .int .u64 (fN id), .int .i64 id, .slice A n c] 135) (by repeat (first | exact List.mem_cons_self | apply List.mem_cons_of_mem))
    have h16 := hfin _ _ _ _ hra.symm (IsT.below (IsT.below hv1 hb3) hb4)
    obtain ⟨hq, hm⟩ := stored_o hp4 h16 (hf1.off hF (Nat.le_refl _))
    have e8 := hp4.cell 8 _ rfl
    have f8 := hp4.free 8
    have hg4 := hp4.lt
    have hB4 := hL4.below
    go_wp2
    simp [bodyPost, results, Tryz.results179]
    exact ⟨by rw [hra]; exact hq, (Mut.of hB4).trans hm⟩
section
variable {F : Nat → Prop} {w : World} {g X : Nat} {id a b ca cb ea eb Ea Eb : Int} {na nb less : Bool} {ma mb : Nat}
set_option maxRecDepth 100000 in
set_option maxHeartbeats 4000000 in
theorem does_bad_o (_ : ∀ b, F b → b < w.heap.size) (hE : (Ea != 0) = true ∨ ((Ea != 0) = false ∧ (Eb != 0) = true)) (h : QuF F g id X w) (hW : VaW w)
    (hda : Hid (∀ w, VaW w → Calls Tryz.prog 105 #[.int .i64 id, .int .u64 a] w fun e w' => e = .returned (.tuple #[.agg #[.int .i64 ca, .bool na, .int .u64 (ma : Nat), .int .i64 ea], .int .i64 Ea]) ∧ Below w.heap.size w w'))
    (hdb : Hid (∀ w, VaW w → Calls Tryz.prog 105 #[.int .i64 id, .int .u64 b] w fun e w' => e = .returned (.tuple #[.agg #[.int .i64 cb, .bool nb, .int .u64 (mb : Nat), .int .i64 eb], .int .i64 Eb]) ∧ Below w.heap.size w w')) :
    Calls Tryz.prog 94 #[.pointer (some ⟨g, 0, none⟩), .int .u64 a, .int .u64 b, .bool less] w fun e w' => e = .returned (.int .i64 1) ∧ QuF F g id X w' ∧ Mut g w w' := by
  obtain ⟨A, n, c, hp, hv, ho⟩ := _root_.id h
  have hL : LiveP w w [pT (.slice A n c) 16 X, pBlk g #[.int .i64 (fK id), .int .i64 (fW id), .int .i64 (fM id), .int .i64 (fB id), .int .u64 (fT id), .int .u64 (fI id), .int .u64 (fN id), .int .i64 id, .slice A n c] 135] := ((LiveP.start w).put (pBlk_st g #[.int .i64 (fK id), .int .i64 (fW id), .int .i64 (fM id), .int .i64 (fB id), .int .u64 (fT id), .int .u64 (fI id), .int .u64 (fN id), .int .i64 id, .slice A n c] 135) hp).put (pT_st (.slice A n c) 16 X) hv
  have q7 := hp.cell 7 _ rfl
  have hg0 := hp.lt
  rcases hE with hE | ⟨hE, hE2⟩
  all_goals
    go_enter Tryz.func94, Tryz.ntmps94
    go_wp2_with fail
    refine (hda.out _ hW).mono ?_
    rintro e w1 ⟨rfl, hb1⟩
    have hL1 := ((hL.go hb1).go ((Below.refl _ _).alloc (Nat.le_refl _) (.cells #[.int .i64 ca, .bool na, .int .u64 (ma : Nat), .int .i64 ea] 85))).put (pBlk_st _ _ _) (pBlk_made w1 #[.int .i64 ca, .bool na, .int .u64 (ma : Nat), .int .i64 ea] 85)
    clear hb1 q7
    have q7 := (hL1.get (P := pBlk g #[.int .i64 (fK id), .int .i64 (fW id), .int .i64 (fM id), .int .i64 (fB id), .int .u64 (fT id), .int .u64 (fI id), .int .u64 (fN id), .int .i64 id, .slice A n c] 135) (by repeat (first | exact List.mem_cons_self | apply List.mem_cons_of_mem))).cell 7 _ rfl
    have hg1 := (hL1.get (P := pBlk g #[.int .i64 (fK id), .int .i64 (fW id), .int .i64 (fM id), .int .i64 (fB id), .int .u64 (fT id), .int .u64 (fI id), .int .u64 (fN id), .int .i64 id, .slice A n c] 135) (by repeat (first | exact List.mem_cons_self | apply List.mem_cons_of_mem))).lt
    go_wp2_with fail
    refine (hdb.out _ (hW.below hL1.below)).mono ?_
    rintro e w2 ⟨rfl, hb2⟩
    have hL2 := ((hL1.go hb2).go ((Below.refl _ _).alloc (Nat.le_refl _) (.cells #[.int .i64 cb, .bool nb, .int .u64 (mb : Nat), .int .i64 eb] 85))).put (pBlk_st _ _ _) (pBlk_made w2 #[.int .i64 cb, .bool nb, .int .u64 (mb : Nat), .int .i64 eb] 85)
    clear hb2 q7 hg1
    have hp2 := hL2.get (P := pBlk g #[.int .i64 (fK id), .int .i64 (fW id), .int .i64 (fM id), .int .i64 (fB id), .int .u64 (fT id), .int .u64 (fI id), .int .u64 (fN id), .int .i64 id, .slice A n c] 135) (by repeat (first | exact List.mem_cons_self | apply List.mem_cons_of_mem))
    have hB2 := hL2.below
    go_wp2
    go_ret
    exact ⟨rfl, h.below hB2, Mut.of hB2⟩
set_option maxRecDepth 100000 in
set_option maxHeartbeats 4000000 in
theorem does_still_o (_ : ∀ b, F b → b < w.heap.size) (h1 : 1 ≤ id) (h4 : id ≤ 4) (hN : X = quN id) (h : QuF F g id X w) (hW : VaW w)
    (hda : Hid (∀ w, VaW w → Calls Tryz.prog 105 #[.int .i64 id, .int .u64 a] w fun e w' => e = .returned (.tuple #[.agg #[.int .i64 ca, .bool na, .int .u64 (ma : Nat), .int .i64 ea], .int .i64 0]) ∧ Below w.heap.size w w'))
    (hdb : Hid (∀ w, VaW w → Calls Tryz.prog 105 #[.int .i64 id, .int .u64 b] w fun e w' => e = .returned (.tuple #[.agg #[.int .i64 cb, .bool nb, .int .u64 (mb : Nat), .int .i64 eb], .int .i64 0]) ∧ Below w.heap.size w w')) :
    Calls Tryz.prog 94 #[.pointer (some ⟨g, 0, none⟩), .int .u64 a, .int .u64 b, .bool less] w fun e w' => e = .returned (.int .i64 0) ∧ QuF F g id X w' ∧ Mut g w w' := by
  obtain ⟨A, n, c, hp, hv, ho⟩ := _root_.id h
  have hL : LiveP w w [pT (.slice A n c) 16 X, pBlk g #[.int .i64 (fK id), .int .i64 (fW id), .int .i64 (fM id), .int .i64 (fB id), .int .u64 (fT id), .int .u64 (fI id), .int .u64 (fN id), .int .i64 id, .slice A n c] 135] := ((LiveP.start w).put (pBlk_st g #[.int .i64 (fK id), .int .i64 (fW id), .int .i64 (fM id), .int .i64 (fB id), .int .u64 (fT id), .int .u64 (fI id), .int .u64 (fN id), .int .i64 id, .slice A n c] 135) hp).put (pT_st (.slice A n c) 16 X) hv
  have q7 := hp.cell 7 _ rfl
  have hg0 := hp.lt
  have hin := Lib.hid fun (w' : World) (hl : LiveP w w' [pT (.slice A n c) 16 X, pBlk g #[.int .i64 (fK id), .int .i64 (fW id), .int .i64 (fM id), .int .i64 (fB id), .int .u64 (fT id), .int .u64 (fI id), .int .u64 (fN id), .int .i64 id, .slice A n c] 135]) => isnar_q h1 h4 hl
  rw [decide_eq_true hN] at hin
  all_goals
    go_enter Tryz.func94, Tryz.ntmps94
    go_wp2_with fail
    refine (hda.out _ hW).mono ?_
    rintro e w1 ⟨rfl, hb1⟩
    have hL1 := ((hL.go hb1).go ((Below.refl _ _).alloc (Nat.le_refl _) (.cells #[.int .i64 ca, .bool na, .int .u64 (ma : Nat), .int .i64 ea] 85))).put (pBlk_st _ _ _) (pBlk_made w1 #[.int .i64 ca, .bool na, .int .u64 (ma : Nat), .int .i64 ea] 85)
    clear hb1 q7
    have q7 := (hL1.get (P := pBlk g #[.int .i64 (fK id), .int .i64 (fW id), .int .i64 (fM id), .int .i64 (fB id), .int .u64 (fT id), .int .u64 (fI id), .int .u64 (fN id), .int .i64 id, .slice A n c] 135) (by repeat (first | exact List.mem_cons_self | apply List.mem_cons_of_mem))).cell 7 _ rfl
    have hg1 := (hL1.get (P := pBlk g #[.int .i64 (fK id), .int .i64 (fW id), .int .i64 (fM id), .int .i64 (fB id), .int .u64 (fT id), .int .u64 (fI id), .int .u64 (fN id), .int .i64 id, .slice A n c] 135) (by repeat (first | exact List.mem_cons_self | apply List.mem_cons_of_mem))).lt
    go_wp2_with fail
    refine (hdb.out _ (hW.below hL1.below)).mono ?_
    rintro e w2 ⟨rfl, hb2⟩
    have hL2 := ((hL1.go hb2).go ((Below.refl _ _).alloc (Nat.le_refl _) (.cells #[.int .i64 cb, .bool nb, .int .u64 (mb : Nat), .int .i64 eb] 85))).put (pBlk_st _ _ _) (pBlk_made w2 #[.int .i64 cb, .bool nb, .int .u64 (mb : Nat), .int .i64 eb] 85)
    clear hb2 q7 hg1
    have hp2 := hL2.get (P := pBlk g #[.int .i64 (fK id), .int .i64 (fW id), .int .i64 (fM id), .int .i64 (fB id), .int .u64 (fT id), .int .u64 (fI id), .int .u64 (fN id), .int .i64 id, .slice A n c] 135) (by repeat (first | exact List.mem_cons_self | apply List.mem_cons_of_mem))
    have hB2 := hL2.below
    go_wp2_with fail
    refine (hin.out _ (hL2.keep (by simp))).mono ?_
    rintro e w3 ⟨rfl, hb3⟩
    have hB3 := hB2.trans (hb3.mono hB2.size)
    go_wp2
    go_ret
    exact ⟨rfl, h.below hB3, Mut.of hB3⟩
set_option maxRecDepth 100000 in
set_option maxHeartbeats 4000000 in
theorem does_nar_o (hF : ∀ b, F b → b < w.heap.size) (h1 : 1 ≤ id) (h4 : id ≤ 4) (hN : X ≠ quN id) (hc : (ca == 4) = true ∨ ((ca == 4) = false ∧ (cb == 4) = true)) (h : QuF F g id X w) (hW : VaW w)
    (hda : Hid (∀ w, VaW w → Calls Tryz.prog 105 #[.int .i64 id, .int .u64 a] w fun e w' => e = .returned (.tuple #[.agg #[.int .i64 ca, .bool na, .int .u64 (ma : Nat), .int .i64 ea], .int .i64 0]) ∧ Below w.heap.size w w'))
    (hdb : Hid (∀ w, VaW w → Calls Tryz.prog 105 #[.int .i64 id, .int .u64 b] w fun e w' => e = .returned (.tuple #[.agg #[.int .i64 cb, .bool nb, .int .u64 (mb : Nat), .int .i64 eb], .int .i64 0]) ∧ Below w.heap.size w w')) :
    Calls Tryz.prog 94 #[.pointer (some ⟨g, 0, none⟩), .int .u64 a, .int .u64 b, .bool less] w fun e w' => e = .returned (.int .i64 0) ∧ QuF F g id (quN id) w' ∧ Mut g w w' := by
  obtain ⟨A, n, c, hp, hv, ho⟩ := _root_.id h
  have hL : LiveP w w [pT (.slice A n c) 16 X, pBlk g #[.int .i64 (fK id), .int .i64 (fW id), .int .i64 (fM id), .int .i64 (fB id), .int .u64 (fT id), .int .u64 (fI id), .int .u64 (fN id), .int .i64 id, .slice A n c] 135] := ((LiveP.start w).put (pBlk_st g #[.int .i64 (fK id), .int .i64 (fW id), .int .i64 (fM id), .int .i64 (fB id), .int .u64 (fT id), .int .u64 (fI id), .int .u64 (fN id), .int .i64 id, .slice A n c] 135) hp).put (pT_st (.slice A n c) 16 X) hv
  have q7 := hp.cell 7 _ rfl
  have hg0 := hp.lt
  have hin := Lib.hid fun (w' : World) (hl : LiveP w w' [pT (.slice A n c) 16 X, pBlk g #[.int .i64 (fK id), .int .i64 (fW id), .int .i64 (fM id), .int .i64 (fB id), .int .u64 (fT id), .int .u64 (fI id), .int .u64 (fN id), .int .i64 id, .slice A n c] 135]) => isnar_q h1 h4 hl
  rw [decide_eq_false hN] at hin
  have hnr := Lib.hid fun (w' : World) (hc : w'.cell? ⟨g, 1, none⟩ = some (.int .i64 (fW id))) => qnar_f (W := w') (g := g) h1 h4 hc
  rcases hc with hc | ⟨hc, hc2⟩
  all_goals
    go_enter Tryz.func94, Tryz.ntmps94
    go_wp2_with fail
    refine (hda.out _ hW).mono ?_
    rintro e w1 ⟨rfl, hb1⟩
    have hL1 := ((hL.go hb1).go ((Below.refl _ _).alloc (Nat.le_refl _) (.cells #[.int .i64 ca, .bool na, .int .u64 (ma : Nat), .int .i64 ea] 85))).put (pBlk_st _ _ _) (pBlk_made w1 #[.int .i64 ca, .bool na, .int .u64 (ma : Nat), .int .i64 ea] 85)
    clear hb1 q7
    have q7 := (hL1.get (P := pBlk g #[.int .i64 (fK id), .int .i64 (fW id), .int .i64 (fM id), .int .i64 (fB id), .int .u64 (fT id), .int .u64 (fI id), .int .u64 (fN id), .int .i64 id, .slice A n c] 135) (by repeat (first | exact List.mem_cons_self | apply List.mem_cons_of_mem))).cell 7 _ rfl
    have hg1 := (hL1.get (P := pBlk g #[.int .i64 (fK id), .int .i64 (fW id), .int .i64 (fM id), .int .i64 (fB id), .int .u64 (fT id), .int .u64 (fI id), .int .u64 (fN id), .int .i64 id, .slice A n c] 135) (by repeat (first | exact List.mem_cons_self | apply List.mem_cons_of_mem))).lt
    go_wp2_with fail
    refine (hdb.out _ (hW.below hL1.below)).mono ?_
    rintro e w2 ⟨rfl, hb2⟩
    have hL2 := ((hL1.go hb2).go ((Below.refl _ _).alloc (Nat.le_refl _) (.cells #[.int .i64 cb, .bool nb, .int .u64 (mb : Nat), .int .i64 eb] 85))).put (pBlk_st _ _ _) (pBlk_made w2 #[.int .i64 cb, .bool nb, .int .u64 (mb : Nat), .int .i64 eb] 85)
    clear hb2 q7 hg1
    have hp2 := hL2.get (P := pBlk g #[.int .i64 (fK id), .int .i64 (fW id), .int .i64 (fM id), .int .i64 (fB id), .int .u64 (fT id), .int .u64 (fI id), .int .u64 (fN id), .int .i64 id, .slice A n c] 135) (by repeat (first | exact List.mem_cons_self | apply List.mem_cons_of_mem))
    have hB2 := hL2.below
    go_wp2_with fail
    refine (hin.out _ (hL2.keep (by simp))).mono ?_
    rintro e w3 ⟨rfl, hb3⟩
    have hL3 := hL2.go hb3
    have hp3 := hL3.get (P := pBlk g #[.int .i64 (fK id), .int .i64 (fW id), .int .i64 (fM id), .int .i64 (fB id), .int .u64 (fT id), .int .u64 (fI id), .int .u64 (fN id), .int .i64 id, .slice A n c] 135) (by repeat (first | exact List.mem_cons_self | apply List.mem_cons_of_mem))
    obtain ⟨a0, a1, a2, a3⟩ := cells4R (hL3.get (P := pBlk w1.heap.size #[.int .i64 ca, .bool na, .int .u64 (ma : Nat), .int .i64 ea] 85) (by repeat (first | exact List.mem_cons_self | apply List.mem_cons_of_mem)))
    obtain ⟨b0, b1, b2, b3⟩ := cells4R (hL3.get (P := pBlk w2.heap.size #[.int .i64 cb, .bool nb, .int .u64 (mb : Nat), .int .i64 eb] 85) (by repeat (first | exact List.mem_cons_self | apply List.mem_cons_of_mem)))
    have hB3 := hL3.below
    go_wp2_with fail
    refine (hnr.out _ (hp3.cell 1 _ rfl)).mono ?_
    rintro e w4 ⟨A4, n4, c4, rfl, hv4, hf4, hb4⟩
    have hp4 := pBlk_st _ _ _ _ _ hp3 hb4
    obtain ⟨hq, hm⟩ := stored_o hp4 (quire_word h1 h4 (quN_lt h1 h4).1 hv4) (hf4.off hF hB3.size)
    have e8 := hp4.cell 8 _ rfl
    have f8 := hp4.free 8
    have hg4 := hp4.lt
    have hB4 := hB3.trans (hb4.mono hB3.size)
    go_wp2
    go_ret
    exact ⟨rfl, hq, (Mut.of hB4).trans hm⟩
set_option maxRecDepth 100000 in
set_option maxHeartbeats 4000000 in
theorem does_none_o (_ : ∀ b, F b → b < w.heap.size) (h1 : 1 ≤ id) (h4 : id ≤ 4) (hN : X ≠ quN id) (hc : (ca == 4) = false ∧ (cb == 4) = false) (hd : (ca == 2) = false ∨ ((ca == 2) = true ∧ (cb == 2) = false)) (h : QuF F g id X w) (hW : VaW w)
    (hda : Hid (∀ w, VaW w → Calls Tryz.prog 105 #[.int .i64 id, .int .u64 a] w fun e w' => e = .returned (.tuple #[.agg #[.int .i64 ca, .bool na, .int .u64 (ma : Nat), .int .i64 ea], .int .i64 0]) ∧ Below w.heap.size w w'))
    (hdb : Hid (∀ w, VaW w → Calls Tryz.prog 105 #[.int .i64 id, .int .u64 b] w fun e w' => e = .returned (.tuple #[.agg #[.int .i64 cb, .bool nb, .int .u64 (mb : Nat), .int .i64 eb], .int .i64 0]) ∧ Below w.heap.size w w')) :
    Calls Tryz.prog 94 #[.pointer (some ⟨g, 0, none⟩), .int .u64 a, .int .u64 b, .bool less] w fun e w' => e = .returned (.int .i64 0) ∧ QuF F g id X w' ∧ Mut g w w' := by
  obtain ⟨A, n, c, hp, hv, ho⟩ := _root_.id h
  have hL : LiveP w w [pT (.slice A n c) 16 X, pBlk g #[.int .i64 (fK id), .int .i64 (fW id), .int .i64 (fM id), .int .i64 (fB id), .int .u64 (fT id), .int .u64 (fI id), .int .u64 (fN id), .int .i64 id, .slice A n c] 135] := ((LiveP.start w).put (pBlk_st g #[.int .i64 (fK id), .int .i64 (fW id), .int .i64 (fM id), .int .i64 (fB id), .int .u64 (fT id), .int .u64 (fI id), .int .u64 (fN id), .int .i64 id, .slice A n c] 135) hp).put (pT_st (.slice A n c) 16 X) hv
  have q7 := hp.cell 7 _ rfl
  have hg0 := hp.lt
  have hin := Lib.hid fun (w' : World) (hl : LiveP w w' [pT (.slice A n c) 16 X, pBlk g #[.int .i64 (fK id), .int .i64 (fW id), .int .i64 (fM id), .int .i64 (fB id), .int .u64 (fT id), .int .u64 (fI id), .int .u64 (fN id), .int .i64 id, .slice A n c] 135]) => isnar_q h1 h4 hl
  rw [decide_eq_false hN] at hin
  obtain ⟨hc1, hc2⟩ := hc
  rcases hd with hd | ⟨hd, hd2⟩
  all_goals
    go_enter Tryz.func94, Tryz.ntmps94
    go_wp2_with fail
    refine (hda.out _ hW).mono ?_
    rintro e w1 ⟨rfl, hb1⟩
    have hL1 := ((hL.go hb1).go ((Below.refl _ _).alloc (Nat.le_refl _) (.cells #[.int .i64 ca, .bool na, .int .u64 (ma : Nat), .int .i64 ea] 85))).put (pBlk_st _ _ _) (pBlk_made w1 #[.int .i64 ca, .bool na, .int .u64 (ma : Nat), .int .i64 ea] 85)
    clear hb1 q7
    have q7 := (hL1.get (P := pBlk g #[.int .i64 (fK id), .int .i64 (fW id), .int .i64 (fM id), .int .i64 (fB id), .int .u64 (fT id), .int .u64 (fI id), .int .u64 (fN id), .int .i64 id, .slice A n c] 135) (by repeat (first | exact List.mem_cons_self | apply List.mem_cons_of_mem))).cell 7 _ rfl
    have hg1 := (hL1.get (P := pBlk g #[.int .i64 (fK id), .int .i64 (fW id), .int .i64 (fM id), .int .i64 (fB id), .int .u64 (fT id), .int .u64 (fI id), .int .u64 (fN id), .int .i64 id, .slice A n c] 135) (by repeat (first | exact List.mem_cons_self | apply List.mem_cons_of_mem))).lt
    go_wp2_with fail
    refine (hdb.out _ (hW.below hL1.below)).mono ?_
    rintro e w2 ⟨rfl, hb2⟩
    have hL2 := ((hL1.go hb2).go ((Below.refl _ _).alloc (Nat.le_refl _) (.cells #[.int .i64 cb, .bool nb, .int .u64 (mb : Nat), .int .i64 eb] 85))).put (pBlk_st _ _ _) (pBlk_made w2 #[.int .i64 cb, .bool nb, .int .u64 (mb : Nat), .int .i64 eb] 85)
    clear hb2 q7 hg1
    have hp2 := hL2.get (P := pBlk g #[.int .i64 (fK id), .int .i64 (fW id), .int .i64 (fM id), .int .i64 (fB id), .int .u64 (fT id), .int .u64 (fI id), .int .u64 (fN id), .int .i64 id, .slice A n c] 135) (by repeat (first | exact List.mem_cons_self | apply List.mem_cons_of_mem))
    have hB2 := hL2.below
    go_wp2_with fail
    refine (hin.out _ (hL2.keep (by simp))).mono ?_
    rintro e w3 ⟨rfl, hb3⟩
    have hL3 := hL2.go hb3
    have hp3 := hL3.get (P := pBlk g #[.int .i64 (fK id), .int .i64 (fW id), .int .i64 (fM id), .int .i64 (fB id), .int .u64 (fT id), .int .u64 (fI id), .int .u64 (fN id), .int .i64 id, .slice A n c] 135) (by repeat (first | exact List.mem_cons_self | apply List.mem_cons_of_mem))
    obtain ⟨a0, a1, a2, a3⟩ := cells4R (hL3.get (P := pBlk w1.heap.size #[.int .i64 ca, .bool na, .int .u64 (ma : Nat), .int .i64 ea] 85) (by repeat (first | exact List.mem_cons_self | apply List.mem_cons_of_mem)))
    obtain ⟨b0, b1, b2, b3⟩ := cells4R (hL3.get (P := pBlk w2.heap.size #[.int .i64 cb, .bool nb, .int .u64 (mb : Nat), .int .i64 eb] 85) (by repeat (first | exact List.mem_cons_self | apply List.mem_cons_of_mem)))
    have hB3 := hL3.below
    go_wp2
    go_ret
    exact ⟨rfl, h.below hB3, Mut.of hB3⟩
set_option maxRecDepth 100000 in
set_option maxHeartbeats 4000000 in
theorem does_sum_o (hF : ∀ b, F b → b < w.heap.size) (h1 : 1 ≤ id) (h4 : id ≤ 4) (hN : X ≠ quN id) (hX : X < 2 ^ quS id) (hca : ca = 2) (hcb : cb = 2) (hma : ma < 18446744073709551616) (hmb : mb < 18446744073709551616) (hea : -2000 ≤ ea ∧ ea ≤ 2000) (heb : -2000 ≤ eb ∧ eb ≤ 2000)
    (h0 : 0 ≤ ea + eb - quL id) (hlt : quM id ma ea mb eb < 2 ^ quS id) (h : QuF F g id X w) (hW : VaW w)
    (hda : Hid (∀ w, VaW w → Calls Tryz.prog 105 #[.int .i64 id, .int .u64 a] w fun e w' => e = .returned (.tuple #[.agg #[.int .i64 ca, .bool na, .int .u64 (ma : Nat), .int .i64 ea], .int .i64 0]) ∧ Below w.heap.size w w'))
    (hdb : Hid (∀ w, VaW w → Calls Tryz.prog 105 #[.int .i64 id, .int .u64 b] w fun e w' => e = .returned (.tuple #[.agg #[.int .i64 cb, .bool nb, .int .u64 (mb : Nat), .int .i64 eb], .int .i64 0]) ∧ Below w.heap.size w w')) :
    Calls Tryz.prog 94 #[.pointer (some ⟨g, 0, none⟩), .int .u64 a, .int .u64 b, .bool less] w fun e w' => e = .returned (.int .i64 0) ∧ QuF F g id (quAdd id X (quPr id na ma ea nb mb eb less)) w' ∧ Mut g w w' := by
  obtain ⟨A, n, c, hp, hv, ho⟩ := _root_.id h
  have hL : LiveP w w [pT (.slice A n c) 16 X, pBlk g #[.int .i64 (fK id), .int .i64 (fW id), .int .i64 (fM id), .int .i64 (fB id), .int .u64 (fT id), .int .u64 (fI id), .int .u64 (fN id), .int .i64 id, .slice A n c] 135] := ((LiveP.start w).put (pBlk_st g #[.int .i64 (fK id), .int .i64 (fW id), .int .i64 (fM id), .int .i64 (fB id), .int .u64 (fT id), .int .u64 (fI id), .int .u64 (fN id), .int .i64 id, .slice A n c] 135) hp).put (pT_st (.slice A n c) 16 X) hv
  have q7 := hp.cell 7 _ rfl
  have hg0 := hp.lt
  have hin := Lib.hid fun (w' : World) (hl : LiveP w w' [pT (.slice A n c) 16 X, pBlk g #[.int .i64 (fK id), .int .i64 (fW id), .int .i64 (fM id), .int .i64 (fB id), .int .u64 (fT id), .int .u64 (fI id), .int .u64 (fN id), .int .i64 id, .slice A n c] 135]) => isnar_q h1 h4 hl
  rw [decide_eq_false hN] at hin
  have hpr := Lib.hid fun (w' : World) (hq : QuF F g id X w') => product_q h1 h4 ca cb na nb less ma mb ea eb hma hmb hea heb h0 hlt hq.S
  have hPl : quPr id na ma ea nb mb eb less < 2 ^ quS id := by
    unfold quPr
    split
    · exact quT_lt hlt
    · exact hlt
  obtain ⟨Pr, hPr⟩ : ∃ Pr, quPr id na ma ea nb mb eb less = Pr := ⟨_, rfl⟩
  rw [hPr] at hpr hPl ⊢
  have hsm := Lib.hid fun (w' : World) (A1 : Option Addr) (n1 c1 : Nat) (hs : w.heap.size ≤ w'.heap.size) (hq : QuF F g id X w') (hb : IsT w' (.slice A1 n1 c1) 20 Pr) => sum_o (fun b hb => Nat.lt_of_lt_of_le (hF b hb) hs) h1 h4 hX hPl hq hb
  clear hPr hPl hX hN h0 hlt hea heb hma hmb
  subst hca; subst hcb
  all_goals
    go_enter Tryz.func94, Tryz.ntmps94
    go_wp2_with fail
    refine (hda.out _ hW).mono ?_
    rintro e w1 ⟨rfl, hb1⟩
    have hL1 := ((hL.go hb1).go ((Below.refl _ _).alloc (Nat.le_refl _) (.cells #[.int .i64 2, .bool na, .int .u64 (ma : Nat), .int .i64 ea] 85))).put (pBlk_st _ _ _) (pBlk_made w1 #[.int .i64 2, .bool na, .int .u64 (ma : Nat), .int .i64 ea] 85)
    clear hb1 q7
    have q7 := (hL1.get (P := pBlk g #[.int .i64 (fK id), .int .i64 (fW id), .int .i64 (fM id), .int .i64 (fB id), .int .u64 (fT id), .int .u64 (fI id), .int .u64 (fN id), .int .i64 id, .slice A n c] 135) (by repeat (first | exact List.mem_cons_self | apply List.mem_cons_of_mem))).cell 7 _ rfl
    have hg1 := (hL1.get (P := pBlk g #[.int .i64 (fK id), .int .i64 (fW id), .int .i64 (fM id), .int .i64 (fB id), .int .u64 (fT id), .int .u64 (fI id), .int .u64 (fN id), .int .i64 id, .slice A n c] 135) (by repeat (first | exact List.mem_cons_self | apply List.mem_cons_of_mem))).lt
    go_wp2_with fail
    refine (hdb.out _ (hW.below hL1.below)).mono ?_
    rintro e w2 ⟨rfl, hb2⟩
    have hL2 := ((hL1.go hb2).go ((Below.refl _ _).alloc (Nat.le_refl _) (.cells #[.int .i64 2, .bool nb, .int .u64 (mb : Nat), .int .i64 eb] 85))).put (pBlk_st _ _ _) (pBlk_made w2 #[.int .i64 2, .bool nb, .int .u64 (mb : Nat), .int .i64 eb] 85)
    clear hb2 q7 hg1
    have hp2 := hL2.get (P := pBlk g #[.int .i64 (fK id), .int .i64 (fW id), .int .i64 (fM id), .int .i64 (fB id), .int .u64 (fT id), .int .u64 (fI id), .int .u64 (fN id), .int .i64 id, .slice A n c] 135) (by repeat (first | exact List.mem_cons_self | apply List.mem_cons_of_mem))
    have hB2 := hL2.below
    go_wp2_with fail
    refine (hin.out _ (hL2.keep (by simp))).mono ?_
    rintro e w3 ⟨rfl, hb3⟩
    have hL3 := hL2.go hb3
    have hp3 := hL3.get (P := pBlk g #[.int .i64 (fK id), .int .i64 (fW id), .int .i64 (fM id), .int .i64 (fB id), .int .u64 (fT id), .int .u64 (fI id), .int .u64 (fN id), .int .i64 id, .slice A n c] 135) (by repeat (first | exact List.mem_cons_self | apply List.mem_cons_of_mem))
    obtain ⟨a0, a1, a2, a3⟩ := cells4R (hL3.get (P := pBlk w1.heap.size #[.int .i64 2, .bool na, .int .u64 (ma : Nat), .int .i64 ea] 85) (by repeat (first | exact List.mem_cons_self | apply List.mem_cons_of_mem)))
    obtain ⟨b0, b1, b2, b3⟩ := cells4R (hL3.get (P := pBlk w2.heap.size #[.int .i64 2, .bool nb, .int .u64 (mb : Nat), .int .i64 eb] 85) (by repeat (first | exact List.mem_cons_self | apply List.mem_cons_of_mem)))
    have hB3 := hL3.below
    have hq3 : QuF F g id X w3 := ⟨A, n, c, hp3, hL3.get (P := pT (.slice A n c) 16 X) (by repeat (first | exact List.mem_cons_self | apply List.mem_cons_of_mem)), ho⟩
    go_wp2_with fail
    refine (hpr.out _ hq3).mono ?_
    rintro e w4 ⟨A4, n4, c4, rfl, hv4, hb4⟩
    have hB4 := hB3.trans (hb4.mono hB3.size)
    go_wp2_with fail
    refine (hsm.out _ _ _ _ hB4.size (hq3.below hb4) hv4).mono ?_
    rintro e w5 ⟨rfl, hq5, hm5⟩
    go_wp2
    go_ret
    exact ⟨rfl, hq5, (Mut.of hB4).trans hm5⟩
end
theorem does_o {F : Nat → Prop} {w : World} (hF : ∀ b, F b → b < w.heap.size) {g X : Nat} {id : Int} (h1 : 1 ≤ id) (h4 : id ≤ 4) (a b : Int) (less : Bool) (ha : 0 ≤ a ∧ a < 18446744073709551616) (hb : 0 ≤ b ∧ b < 18446744073709551616) (hX : X < 2 ^ quS id) (h : QuF F g id X w) (hW : VaW w) :
    Calls Tryz.prog 94 #[.pointer (some ⟨g, 0, none⟩), .int .u64 a, .int .u64 b, .bool less] w fun e w' => e = .returned (.int .i64 (quDoE id a b)) ∧ QuF F g id (quDo id X a b less) w' ∧ Mut g w w' := by
  by_cases hf : fitsV id a ≠ 0 ∨ fitsV id b ≠ 0
  · obtain ⟨c1, n1, m1, x1, d1⟩ := deco_some id a ha.1 ha.2
    obtain ⟨c2, n2, m2, x2, d2⟩ := deco_some id b hb.1 hb.2
    have e1 : quDoE id a b = 1 := by unfold quDoE; rw [if_pos hf]
    have e2 : quDo id X a b less = X := by unfold quDo; rw [if_pos hf]
    rw [e1, e2]
    refine does_bad_o hF ?_ h hW d1 d2
    by_cases h0 : fitsV id a = 0
    · right
      refine ⟨by simp [h0], ?_⟩
      rcases hf with h' | h'
      · exact absurd h0 h'
      · simp [h']
    · left; simp [h0]
  · have fa : fitsV id a = 0 := Classical.byContradiction fun h' => hf (.inl h')
    have fb : fitsV id b = 0 := Classical.byContradiction fun h' => hf (.inr h')
    obtain ⟨-, i15, a3⟩ := fits_two fa
    obtain ⟨-, -, b3⟩ := fits_two fb
    have d1 := Lib.hid fun w (hW : VaW w) => vdec_yes id a h1 i15 ha.1 a3 w hW
    have d2 := Lib.hid fun w (hW : VaW w) => vdec_yes id b h1 i15 hb.1 b3 w hW
    have e1 : quDoE id a b = 0 := by unfold quDoE; rw [if_neg hf]
    rw [e1]
    by_cases hN : X = quN id
    · have e2 : quDo id X a b less = X := by unfold quDo; rw [if_neg hf, if_pos hN]
      rw [e2]
      exact does_still_o hF h1 h4 hN h hW d1 d2
    · by_cases hc : classV id a = 4 ∨ classV id b = 4
      · have e2 : quDo id X a b less = quN id := by unfold quDo; rw [if_neg hf, if_neg hN, if_pos hc]
        rw [e2]
        refine does_nar_o hF h1 h4 hN ?_ h hW d1 d2
        by_cases h0 : classV id a = 4
        · left; simp [h0]
        · right
          refine ⟨by simp [h0], ?_⟩
          rcases hc with h' | h'
          · exact absurd h' h0
          · simp [h']
      · have hc4 : (classV id a == 4) = false ∧ (classV id b == 4) = false := ⟨by simpa using fun h' => hc (.inl h'), by simpa using fun h' => hc (.inr h')⟩
        by_cases hd : classV id a = 2 ∧ classV id b = 2
        · have e2 : quDo id X a b less = quAdd id X (quPr id (decN id a) (decM id a) (decE id a) (decN id b) (decM id b) (decE id b) less) := by unfold quDo; rw [if_neg hf, if_neg hN, if_neg hc, if_pos hd]
          rw [e2]
          obtain ⟨p1, p2, p3, p4, p5, p6, p7, p8, p9⟩ := quPr_bnd h1 h4 fa fb ha.1 hb.1 hd.1 hd.2
          obtain ⟨s1, -⟩ := quS_bnd h1 h4
          exact does_sum_o hF h1 h4 hN hX hd.1 hd.2 p4 p5 ⟨p6, p7⟩ ⟨p8, p9⟩ p1 (Nat.lt_of_le_of_lt p3 (Nat.pow_lt_pow_right (by decide) (by omega))) h hW d1 d2
        · have e2 : quDo id X a b less = X := by unfold quDo; rw [if_neg hf, if_neg hN, if_neg hc, if_neg hd]
          rw [e2]
          refine does_none_o hF h1 h4 hN hc4 ?_ h hW d1 d2
          by_cases h0 : classV id a = 2
          · right; exact ⟨by simp [h0], by simpa using fun h' => hd ⟨h0, h'⟩⟩
          · left; simp [h0]
set_option maxRecDepth 100000 in
theorem qadd_o {F : Nat → Prop} {w : World} (hF : ∀ b, F b → b < w.heap.size) {g X : Nat} {id : Int} (h1 : 1 ≤ id) (h4 : id ≤ 4) (a b : Int) (ha : 0 ≤ a ∧ a < 18446744073709551616) (hb : 0 ≤ b ∧ b < 18446744073709551616) (hX : X < 2 ^ quS id) (h : QuF F g id X w) (hW : VaW w) :
    Calls Tryz.prog 33 #[.pointer (some ⟨g, 0, none⟩), .int .u64 a, .int .u64 b] w fun e w' => e = .returned (.int .i64 (quDoE id a b)) ∧ QuF F g id (quDo id X a b false) w' ∧ Mut g w w' := by
  have hd := Lib.hid (does_o hF h1 h4 a b false ha hb hX h hW)
  generalize quDoE id a b = E at hd ⊢
  generalize quDo id X a b false = Y at hd ⊢
  clear ha hb hX h hW
  go_enter Tryz.func33, Tryz.ntmps33
  go_wp2_with fail
  refine hd.out.mono ?_
  rintro e w1 ⟨rfl, hq, hm⟩
  go_wp2
  go_ret
  exact ⟨rfl, hq, hm⟩
set_option maxRecDepth 100000 in
theorem qsub_o {F : Nat → Prop} {w : World} (hF : ∀ b, F b → b < w.heap.size) {g X : Nat} {id : Int} (h1 : 1 ≤ id) (h4 : id ≤ 4) (a b : Int) (ha : 0 ≤ a ∧ a < 18446744073709551616) (hb : 0 ≤ b ∧ b < 18446744073709551616) (hX : X < 2 ^ quS id) (h : QuF F g id X w) (hW : VaW w) :
    Calls Tryz.prog 34 #[.pointer (some ⟨g, 0, none⟩), .int .u64 a, .int .u64 b] w fun e w' => e = .returned (.int .i64 (quDoE id a b)) ∧ QuF F g id (quDo id X a b true) w' ∧ Mut g w w' := by
  have hd := Lib.hid (does_o hF h1 h4 a b true ha hb hX h hW)
  generalize quDoE id a b = E at hd ⊢
  generalize quDo id X a b true = Y at hd ⊢
  clear ha hb hX h hW
  go_enter Tryz.func34, Tryz.ntmps34
  go_wp2_with fail
  refine hd.out.mono ?_
  rintro e w1 ⟨rfl, hq, hm⟩
  go_wp2
  go_ret
  exact ⟨rfl, hq, hm⟩
end Go.Proofs.YtobokaafmcfeaaaGreatDoor
