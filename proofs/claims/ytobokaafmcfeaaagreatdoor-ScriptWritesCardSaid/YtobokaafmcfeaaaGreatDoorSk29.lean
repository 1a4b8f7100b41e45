/- The quire: what it holds, and its pattern, walked. Conditions: the variables that values read. -/
/- The quire: what is done with it, walked. Conditions: the variables that values read. -/
/- The quire: what is made lies in new memory. Conditions: none. -/
import Derived.Test.YtobokaafmcfeaaaGreatDoorSk28
import Derived.Test.YtobokaafmcfeaaaGreatDoorSk22
namespace Go.Proofs.YtobokaafmcfeaaaGreatDoor
open Go.RowKit Go.Cal
/-- The same number, with its twos and fives apart. -/
theorem red_cross (Y a b : Nat) (q : Int) : exP Y (q + a) b * exQ q 0 = exP (Y * 2 ^ a * 5 ^ b) q 0 * exQ (q + a) b := by
  have c1 := exP_cross Y (q + a) b q 0
  have c2 := exP_cross (Y * 2 ^ a * 5 ^ b) q 0 (q + a) b
  rw [c1, c2]
  unfold exP
  rw [show (q + (a : Int) - q).toNat = a by omega, show ((b : Int) - 0).toNat = b by omega, show (q - (q + (a : Int))).toNat = 0 by omega, show ((0 : Int) - (b : Int)).toNat = 0 by omega]
  simp only [Nat.pow_zero, Nat.mul_one]
  rw [show (b : Int).toNat + (-0 : Int).toNat - b = (0 : Int).toNat + (-(b : Int)).toNat - 0 by omega, show (q + (a : Int)).toNat + (-q).toNat - a = q.toNat + (-(q + (a : Int))).toNat - 0 by omega]
  ac_rfl
theorem quA_lt {id : Int} {X : Nat} (hX : X < 2 ^ quS id) : quA id X < 2 ^ quS id := by
  unfold quA
  split
  · exact quT_lt hX
  · exact hX
theorem quA_zero {id : Int} {X : Nat} (h1 : 1 ≤ id) (h4 : id ≤ 4) (hX : X < 2 ^ quS id) : quA id X = 0 ↔ X = 0 := by
  obtain ⟨q1, q2⟩ := quN_lt h1 h4
  unfold quA quB quT
  by_cases h : quN id ≤ X
  · rw [if_pos (by simpa using h), if_neg (by omega)]; omega
  · rw [if_neg (by simpa using h)]
section
variable {w W : World} {A : Option Addr} {n c X g : Nat} {id : Int}
set_option maxRecDepth 100000 in
set_option maxHeartbeats 4000000 in
/-- What is held: an exact number without twos and fives. -/
theorem value_q (h1 : 1 ≤ id) (h4 : id ≤ 4) (hX : X < 2 ^ quS id) (hL : LiveP w W [pT (.slice A n c) 16 X, pBlk g #[.int .i64 (fK id), .int .i64 (fW id), .int .i64 (fM id), .int .i64 (fB id), .int .u64 (fT id), .int .u64 (fI id), .int .u64 (fN id), .int .i64 id, .slice A n c] 135]) : Calls Tryz.prog 97 #[.pointer (some ⟨g, 0, none⟩)] W fun e w' =>
    (X = quN id ∧ e = .returned (.tuple #[.agg #[.bool false, .slice none 0 0, .int .i64 0, .int .i64 0], .bool false]) ∧ Below W.heap.size W w') ∨
    (X ≠ quN id ∧ ∃ (Y a b : Nat) (A' : Option Addr) (n' c' : Nat) (t f : Int), e = .returned (.tuple #[.agg #[.bool (quB id X), .slice A' n' c', .int .i64 t, .int .i64 f], .bool true]) ∧ IsT w' (.slice A' n' c') 128 Y ∧ ((quA id X = 0 ∧ Y = 0 ∧ t = 0 ∧ f = 0 ∧ quB id X = false) ∨ (0 < Y ∧ quA id X = Y * 2 ^ a * 5 ^ b ∧ t = quL id + a ∧ f = b)) ∧ Below W.heap.size W w') := by
  have hb0 := (Below.refl W.heap.size W).alloc (Nat.le_refl _) (.cells #[.bool false, .slice none 0 0, .int .i64 0, .int .i64 0] 101)
  have hL0 := hL.go hb0
  have hr0 := pBlk_made W #[.bool false, .slice none 0 0, .int .i64 0, .int .i64 0] 101
  have hin := Lib.hid (isnar_q h1 h4 hL0)
  by_cases hN : X = quN id
  · rw [decide_eq_true hN] at hin
    go_enter Tryz.func97, Tryz.ntmps97
    go_wp2_with fail
    refine hin.out.mono ?_
    rintro e w1 ⟨rfl, hb⟩
    have hr1 := pBlk_st _ _ _ _ _ hr0 hb
    go_wp2_with (first | ((with_reducible show wpList _ _ _ (Oper.mk _ (Op.store 101 _ _) _ _ _ _ :: _) _ _); refine wpList_store_keep _ rfl 101 _ _ rfl W.heap.size #[.bool false, .slice none 0 0, .int .i64 0, .int .i64 0] #[.bool false, .slice none 0 0, .int .i64 0, .int .i64 0] 101 rfl rfl hr1 exact_size rfl (by simp [Value.oneCell']) noU ?_; intro w2 hp2 hb2 hk2; obtain ⟨r0, r1, r2, r3⟩ := cells4R hp2))
    exact bodyPost_ret (v := .tuple #[.agg #[.bool false, .slice none 0 0, .int .i64 0, .int .i64 0], .bool false]) (by simp [results, Tryz.results97, go_sem, r0, r1, r2, r3]) rfl (.inl ⟨hN, rfl, (hb0.trans (hb.mono hb0.size)).trans hb2⟩)
  · rw [decide_eq_false hN] at hin
    have hsz := Lib.hid fun (w' : World) (hl : LiveP w w' [pT (.slice A n c) 16 X, pBlk g #[.int .i64 (fK id), .int .i64 (fW id), .int .i64 (fM id), .int .i64 (fB id), .int .u64 (fT id), .int .u64 (fI id), .int .u64 (fN id), .int .i64 id, .slice A n c] 135]) => qsize_q h1 h4 hX hl
    have hA0 := quA_zero h1 h4 hX
    have hAl := quA_lt (id := id) (X := X) hX
    have hBz : quA id X = 0 → quB id X = false := fun h => by
      have h0 := hA0.1 h
      have := (quN_lt h1 h4).2
      unfold quB
      rw [h0]
      simp; omega
    have hql := Lib.hid fun (w' : World) (hl : LiveP w w' [pT (.slice A n c) 16 X, pBlk g #[.int .i64 (fK id), .int .i64 (fW id), .int .i64 (fM id), .int .i64 (fB id), .int .u64 (fT id), .int .u64 (fI id), .int .u64 (fN id), .int .i64 id, .slice A n c] 135]) => qlow_q h1 h4 (boxQ hl).2.2.1
    obtain ⟨V, -, v1, v2, -, v3⟩ := wideQ h1 h4
    have hqb : -600 ≤ quL id ∧ quL id ≤ 600 := by omega
    generalize quL id = q at hql hqb ⊢
    generalize quB id X = b at hsz hBz ⊢
    generalize quA id X = Z at hsz hA0 hAl hBz ⊢
    clear v1 v2 v3
    go_enter Tryz.func97, Tryz.ntmps97
    go_wp2_with fail
    refine hin.out.mono ?_
    rintro e w1 ⟨rfl, hb⟩
    have hr1 := pBlk_st _ _ _ _ _ hr0 hb
    have hL1 := hL0.go hb
    have hB1 := hb0.trans (hb.mono hb0.size)
    clear hb
    go_wp2_with fail
    refine (hsz.out _ hL1).mono ?_
    rintro e w2 ⟨A2, n2, c2, rfl, hv2, hb⟩
    have hr2 := pBlk_st _ _ _ _ _ hr1 hb
    have hL2 := hL1.go hb
    have hB2 := hB1.trans (hb.mono hB1.size)
    clear hb
    rcases isT_zero hv2 with ⟨z1, z2⟩ | ⟨z1, z2⟩
    · subst z1
      have hb9 := hBz z2
      clear hsz hql hA0 hAl hBz
      go_wp2_with (first | ((with_reducible show wpList _ _ _ (Oper.mk _ (Op.store 101 _ _) _ _ _ _ :: _) _ _); refine wpList_store_keep _ rfl 101 _ _ rfl W.heap.size #[.bool false, .slice none 0 0, .int .i64 0, .int .i64 0] #[.bool false, .slice none 0 0, .int .i64 0, .int .i64 0] 101 rfl rfl hr2 exact_size rfl (by simp [Value.oneCell']) noU ?_; intro w3 hp3 hb3 hk3; obtain ⟨r0, r1, r2, r3⟩ := cells4R hp3))
      exact bodyPost_ret (v := .tuple #[.agg #[.bool false, .slice none 0 0, .int .i64 0, .int .i64 0], .bool true]) (by simp [results, Tryz.results97, go_sem, r0, r1, r2, r3]) rfl
        (.inr ⟨hN, 0, 0, 0, none, 0, 0, 0, 0, by rw [hb9], nil_tW _ _, .inl ⟨z2, rfl, rfl, rfl, hb9⟩, hB2.trans hb3⟩)
    · have hz : ((n2 : Int) == 0) = false := by simp; omega
      have hrd := Lib.hid (fun (w' : World) (hv : IsT w' (.slice A2 n2 c2) 18 Z) => red_any b q 0 (hv.up (show 18 ≤ 128 by decide)) z2 ⟨by omega, by omega⟩ (by decide))
      clear hsz hA0 hAl hBz
      go_wp2_with fail
      refine (hql.out _ hL2).mono ?_
      rintro e w3 ⟨rfl, rfl⟩
      go_wp2_with fail
      refine (hrd.out _ hv2).mono ?_
      rintro e w4 ⟨Y, a, b', A4, n4, c4, rfl, hZ, hv4, hb⟩
      have hr4 := pBlk_st _ _ _ _ _ hr2 hb
      have hB4 := hB2.trans (hb.mono hB2.size)
      have hY0 : 0 < Y := by
        rcases Nat.eq_zero_or_pos Y with h | h
        · rw [h, Nat.zero_mul, Nat.zero_mul] at hZ; omega
        · exact h
      replace hZ := Lib.hid hZ
      go_wp2_with (first | ((with_reducible show wpList _ _ _ (Oper.mk _ (Op.store 101 _ _) _ _ _ _ :: _) _ _); refine wpList_store_keep _ rfl 101 _ _ rfl W.heap.size #[.bool b, .slice A4 n4 c4, .int .i64 (q + a), .int .i64 (b' : Nat)] #[.bool false, .slice none 0 0, .int .i64 0, .int .i64 0] 101 rfl rfl hr4 exact_size rfl (by simp [Value.oneCell']) noU ?_; intro w5 hp5 hb5 hk5; obtain ⟨r0, r1, r2, r3⟩ := cells4R hp5))
      exact bodyPost_ret (v := .tuple #[.agg #[.bool b, .slice A4 n4 c4, .int .i64 (q + a), .int .i64 (b' : Nat)], .bool true]) (by simp [results, Tryz.results97, go_sem, r0, r1, r2, r3]) rfl
        (.inr ⟨hN, Y, a, b', A4, n4, c4, q + a, (b' : Nat), rfl, hk5 _ _ _ hv4, .inr ⟨hY0, hZ.out, rfl, by omega⟩, hB4.trans hb5⟩)
set_option maxRecDepth 100000 in
set_option maxHeartbeats 4000000 in
/-- The pattern of what is held. -/
theorem posit_q (h1 : 1 ≤ id) (h4 : id ≤ 4) (hX : X < 2 ^ quS id) (hW : VaW W) (hL : LiveP w W [pT (.slice A n c) 16 X, pBlk g #[.int .i64 (fK id), .int .i64 (fW id), .int .i64 (fM id), .int .i64 (fB id), .int .u64 (fT id), .int .u64 (fI id), .int .u64 (fN id), .int .i64 id, .slice A n c] 135]) : Calls Tryz.prog 36 #[.pointer (some ⟨g, 0, none⟩)] W fun e w' => e = .returned (.int .u64 (quP id X)) ∧ Below W.heap.size W w' := by
  have hvl := Lib.hid (value_q h1 h4 hX hL)
  have hE : roundE id 1 = 0 := by unfold roundE; rw [if_neg (by omega), if_neg (by omega)]
  obtain ⟨V, -, v1, v2, -, v3⟩ := wideQ h1 h4
  have hLw := ((LiveP.start W).put (pBlk_st g #[.int .i64 (fK id), .int .i64 (fW id), .int .i64 (fM id), .int .i64 (fB id), .int .u64 (fT id), .int .u64 (fI id), .int .u64 (fN id), .int .i64 id, .slice A n c] 135) (hL.get (P := pBlk g #[.int .i64 (fK id), .int .i64 (fW id), .int .i64 (fM id), .int .i64 (fB id), .int .u64 (fT id), .int .u64 (fI id), .int .u64 (fN id), .int .i64 id, .slice A n c] 135) (by repeat (first | exact List.mem_cons_self | apply List.mem_cons_of_mem)))).put (pT_st (.slice A n c) 16 X) (hL.get (P := pT (.slice A n c) 16 X) (by repeat (first | exact List.mem_cons_self | apply List.mem_cons_of_mem)))
  by_cases hN : X = quN id
  · have hP : quP id X = fN id := by unfold quP; rw [if_pos hN]
    rw [hP]
    clear hP v1 v2 v3 hE
    go_enter Tryz.func36, Tryz.ntmps36
    go_wp2_with fail
    refine hvl.out.mono ?_
    rintro e w1 (⟨-, rfl, hb⟩ | ⟨hn, -⟩)
    case inr => exact absurd hN hn
    have hL1 := (hLw.go hb).go ((Below.refl _ _).alloc (Nat.le_refl _) (.cells #[.bool false, .slice none 0 0, .int .i64 0, .int .i64 0] 101))
    have c6 := (hL1.get (P := pBlk g #[.int .i64 (fK id), .int .i64 (fW id), .int .i64 (fM id), .int .i64 (fB id), .int .u64 (fT id), .int .u64 (fI id), .int .u64 (fN id), .int .i64 id, .slice A n c] 135) (by repeat (first | exact List.mem_cons_self | apply List.mem_cons_of_mem))).cell 6 _ rfl
    have hg := (hL1.get (P := pBlk g #[.int .i64 (fK id), .int .i64 (fW id), .int .i64 (fM id), .int .i64 (fB id), .int .u64 (fT id), .int .u64 (fI id), .int .u64 (fN id), .int .i64 id, .slice A n c] 135) (by repeat (first | exact List.mem_cons_self | apply List.mem_cons_of_mem))).lt
    go_wp2
    go_ret
    exact ⟨rfl, hL1.below⟩
  · obtain ⟨P, hP⟩ : ∃ P, quP id X = P := ⟨_, rfl⟩
    obtain ⟨bb, hbb⟩ : ∃ bb, quB id X = bb := ⟨_, rfl⟩
    rw [hP]
    rw [hbb] at hvl
    go_enter Tryz.func36, Tryz.ntmps36
    go_wp2_with fail
    refine hvl.out.mono ?_
    rintro e w1 (⟨hn, -⟩ | ⟨-, Y, a, b, A2, n2, c2, t, f, rfl, hv, hc, hb⟩)
    case inl => exact absurd hn hN
    have hab : P = roundP id 1 bb (exP Y t f) (exQ t f) ∧ (-5000 ≤ t ∧ t ≤ 5000) ∧ (-5000 ≤ f ∧ f ≤ 5000) := by
      have hq : P = roundP id 1 bb (exP (quA id X) (quL id) 0) (exQ (quL id) 0) := by rw [← hP, ← hbb]; unfold quP; rw [if_neg hN]
      rcases hc with ⟨z0, rfl, rfl, rfl, -⟩ | ⟨y0, hz, rfl, rfl⟩
      · refine ⟨?_, by decide, by decide⟩
        rw [hq, z0]
        exact roundP_cross (exQ_pos _ _) (exQ_pos _ _) (by simp [exP])
      · have hlt := quA_lt (id := id) (X := X) hX
        obtain ⟨s1, s2, -⟩ := quS_bnd h1 h4
        have ha : a < quS id := by
          have h : 2 ^ a ≤ quA id X := by
            rw [hz]
            calc 2 ^ a ≤ Y * 2 ^ a := Nat.le_mul_of_pos_left _ y0
              _ ≤ Y * 2 ^ a * 5 ^ b := Nat.le_mul_of_pos_right _ (Nat.pow_pos (by decide))
          exact (Nat.pow_lt_pow_iff_right (a := 2) (by decide)).1 (Nat.lt_of_le_of_lt h hlt)
        have hb9 : b < quS id := by
          have h : 2 ^ b ≤ quA id X := by
            rw [hz]
            calc 2 ^ b ≤ 5 ^ b := Nat.pow_le_pow_left (by decide) _
              _ ≤ Y * 2 ^ a * 5 ^ b := Nat.le_mul_of_pos_left _ (Nat.mul_pos y0 (Nat.two_pow_pos _))
          exact (Nat.pow_lt_pow_iff_right (a := 2) (by decide)).1 (Nat.lt_of_le_of_lt h hlt)
        refine ⟨?_, ⟨by omega, by omega⟩, by omega, by omega⟩
        rw [hq, hz]
        exact (roundP_cross (exQ_pos _ _) (exQ_pos _ _) (red_cross Y a b (quL id))).symm
    obtain ⟨hq, ht, hf⟩ := hab
    have hL1 := (((hLw.go hb).put (pT_st (.slice A2 n2 c2) 128 Y) hv).go ((Below.refl _ _).alloc (Nat.le_refl _) (.cells #[.bool bb, .slice A2 n2 c2, .int .i64 t, .int .i64 f] 101))).put (pBlk_st _ _ _) (pBlk_made w1 #[.bool bb, .slice A2 n2 c2, .int .i64 t, .int .i64 f] 101)
    have hrd := Lib.hid fun (W' : World) (hb' : Below W.heap.size W W') (hv' : IsT W' (.slice A2 n2 c2) 128 Y) => round_yes id 1 bb Y t f hE ht hf (hW.below hb') hv'
    rw [← hq] at hrd
    obtain ⟨r, hr⟩ : ∃ r, w1.heap.size = r := ⟨_, rfl⟩
    rw [hr] at hL1
    have c7 := (hL1.get (P := pBlk g #[.int .i64 (fK id), .int .i64 (fW id), .int .i64 (fM id), .int .i64 (fB id), .int .u64 (fT id), .int .u64 (fI id), .int .u64 (fN id), .int .i64 id, .slice A n c] 135) (by repeat (first | exact List.mem_cons_self | apply List.mem_cons_of_mem))).cell 7 _ rfl
    have hg := (hL1.get (P := pBlk g #[.int .i64 (fK id), .int .i64 (fW id), .int .i64 (fM id), .int .i64 (fB id), .int .u64 (fT id), .int .u64 (fI id), .int .u64 (fN id), .int .i64 id, .slice A n c] 135) (by repeat (first | exact List.mem_cons_self | apply List.mem_cons_of_mem))).lt
    obtain ⟨r0, r1, r2, r3⟩ := cells4R (hL1.get (P := pBlk r #[.bool bb, .slice A2 n2 c2, .int .i64 t, .int .i64 f] 101) (by repeat (first | exact List.mem_cons_self | apply List.mem_cons_of_mem)))
    have hrl := (hL1.get (P := pBlk r #[.bool bb, .slice A2 n2 c2, .int .i64 t, .int .i64 f] 101) (by repeat (first | exact List.mem_cons_self | apply List.mem_cons_of_mem))).lt
    have hv1 : IsT _ (.slice A2 n2 c2) 128 Y := hL1.get (P := pT (.slice A2 n2 c2) 128 Y) (by repeat (first | exact List.mem_cons_self | apply List.mem_cons_of_mem))
    have hb1 := hL1.below
    clear hq hc ht hf hE v1 v2 v3 hbb hP hvl hN hv hb hL hLw
    go_wp2_with fail
    obtain ⟨W9, hW9⟩ : ∃ W9, w1.alloc (.cells #[.bool bb, .slice A2 n2 c2, .int .i64 t, .int .i64 f] 101) = W9 := ⟨_, rfl⟩
    rw [hW9] at hb1 hv1 c7 hg r0 r1 r2 r3 hrl ⊢
    have hv9 := hv1.below (Below.refl W9.heap.size W9).drew
    have hrr := hrd.out W9.drew hb1.drew hv9
    clear hW9 hL1 hrd hv1 hv9
    replace hrr := Lib.hid hrr
    go_region_law (first | (go_simp; go_at_call 62; refine Calls.mono hrr.out ?_; rintro e w4 ⟨rfl, hb4⟩; have hfin := hb1.drew.trans (hb4.mono hb1.size)) | fail)
    all_goals
      go_wp2
      go_ret
      exact ⟨rfl, hfin⟩
end
end Go.Proofs.YtobokaafmcfeaaaGreatDoor
namespace Go.Proofs.YtobokaafmcfeaaaGreatDoor
open Go.RowKit Go.Cal
theorem QuS.below {g : Nat} {id : Int} {N : Nat} {w w' : World} (h : QuS g id N w) (hb : Below w.heap.size w w') : QuS g id N w' := by
  obtain ⟨A, n, c, hp, hv⟩ := h
  exact ⟨A, n, c, pBlk_st _ _ _ _ _ hp hb, hv.below hb⟩
theorem QuS.lt {g : Nat} {id : Int} {N : Nat} {w : World} (h : QuS g id N w) : g < w.heap.size := by
  obtain ⟨A, n, c, hp, hv⟩ := h
  exact hp.lt
theorem quire_word {id : Int} {X k : Nat} (h1 : 1 ≤ id) (h4 : id ≤ 4) (hX : X < 2 ^ quS id) {w : World} {v : Value} (h : IsT w v k X) : IsT w v 16 X := by
  obtain ⟨s1, s2, -⟩ := quS_bnd h1 h4
  have hk : ∀ k, quS id ≤ 64 * k → 2 ^ quS id ≤ 18446744073709551616 ^ k := fun k hk => by
    rw [show (18446744073709551616 : Nat) = 2 ^ 64 by decide, ← Nat.pow_mul]
    exact Nat.pow_le_pow_right (by decide) hk
  exact h.more16 (Nat.lt_of_lt_of_le hX (hk 16 (by omega)))
/-- The bits stored: what the block holds then. -/
theorem stored_q {w : World} {A A1 : Option Addr} {n c n1 c1 g X : Nat} {id : Int} (hp : pBlk g #[.int .i64 (fK id), .int .i64 (fW id), .int .i64 (fM id), .int .i64 (fB id), .int .u64 (fT id), .int .u64 (fI id), .int .u64 (fN id), .int .i64 id, .slice A n c] 135 w) (hv : IsT w (.slice A1 n1 c1) 16 X) :
    QuS g id X (w.setCell ⟨g, 8, none⟩ (.slice A1 n1 c1)) ∧ Mut g w (w.setCell ⟨g, 8, none⟩ (.slice A1 n1 c1)) := by
  have hm := Mut.set (i := 8) hp (.slice A1 n1 c1) (.slice A n c) rfl (by simp)
  exact ⟨⟨A1, n1, c1, hp.setX 8 _, hv.mut hm⟩, hm⟩
set_option maxRecDepth 100000 in
set_option maxHeartbeats 1000000 in
theorem new_q (id : Int) (h1 : 1 ≤ id) (h4 : id ≤ 4) (w : World) (hW : VaW w) : Calls Tryz.prog 31 #[.int .i64 id] w fun e w' => ∃ g : Nat, e = .returned (.tuple #[.pointer (some ⟨g, 0, none⟩), .int .i64 0]) ∧ w.heap.size ≤ g ∧ QuS g id 0 w' ∧ Below w.heap.size w w' := by
  have hof := Lib.hid fun w (hW : VaW w) => fo_of id w hW.frm h1 (by omega)
  have hk := posit_kind h1 h4
  have hL := LiveP.start w
  rw [hk] at hof
  go_enter Tryz.func31, Tryz.ntmps31
  go_wp2_with fail
  refine (hof.out _ hW).mono ?_
  rintro e w1 ⟨rfl, hb⟩
  have hb0 := hb.alloc hb.size (.cells #[.int .i64 1, .int .i64 (fW id), .int .i64 (fM id), .int .i64 (fB id), .int .u64 (fT id), .int .u64 (fI id), .int .u64 (fN id)] 67)
  have hb1 := hb0.alloc hb0.size (.cells #[.int .i64 1, .int .i64 (fW id), .int .i64 (fM id), .int .i64 (fB id), .int .u64 (fT id), .int .u64 (fI id), .int .u64 (fN id), .int .i64 id, .slice none 0 0] 135)
  have hp := pBlk_madeR (w1.alloc (.cells #[.int .i64 1, .int .i64 (fW id), .int .i64 (fM id), .int .i64 (fB id), .int .u64 (fT id), .int .u64 (fI id), .int .u64 (fN id)] 67)) #[.int .i64 1, .int .i64 (fW id), .int .i64 (fM id), .int .i64 (fB id), .int .u64 (fT id), .int .u64 (fI id), .int .u64 (fN id), .int .i64 id, .slice none 0 0] 135 (w1.heap.size + 1) (by simp)
  have hsz := hb.size
  go_wp2
  go_ret2
  refine ⟨w1.heap.size + 1, (by first | rfl | trivial), by omega, ⟨none, 0, 0, ?_, nil_tW _ _⟩, hb1⟩
  rw [hk]
  exact hp
set_option maxRecDepth 100000 in
set_option maxHeartbeats 1000000 in
theorem clear_q {w : World} {g X : Nat} {id : Int} (h : QuS g id X w) : Calls Tryz.prog 32 #[.pointer (some ⟨g, 0, none⟩)] w fun e w' => e = .returned (.tuple #[]) ∧ QuS g id 0 w' ∧ Mut g w w' := by
  obtain ⟨A, n, c, hp, hv⟩ := h
  obtain ⟨hq, hm⟩ := stored_q hp (nil_tW w 16)
  have c8 := hp.cell 8 _ rfl
  have f8 := hp.free 8
  have hg := hp.lt
  go_enter Tryz.func32, Tryz.ntmps32
  go_wp2
  simp [bodyPost, results, Tryz.results32]
  exact ⟨hq, hm⟩
section
variable {w W W' : World} {A : Option Addr} {n c X g ma mb : Nat} {id ca cb ea eb : Int} {na nb : Bool}
theorem boxP (hL : LiveP w W [pBlk (w.heap.size + 1) #[.int .i64 cb, .bool nb, .int .u64 (mb : Nat), .int .i64 eb] 85, pBlk w.heap.size #[.int .i64 ca, .bool na, .int .u64 (ma : Nat), .int .i64 ea] 85, pT (.slice A n c) 16 X, pBlk g #[.int .i64 (fK id), .int .i64 (fW id), .int .i64 (fM id), .int .i64 (fB id), .int .u64 (fT id), .int .u64 (fI id), .int .u64 (fN id), .int .i64 id, .slice A n c] 135]) : (LiveP w W [pBlk (w.heap.size + 1) #[.int .i64 cb, .bool nb, .int .u64 (mb : Nat), .int .i64 eb] 85, pBlk w.heap.size #[.int .i64 ca, .bool na, .int .u64 (ma : Nat), .int .i64 ea] 85, pT (.slice A n c) 16 X, pBlk g #[.int .i64 (fK id), .int .i64 (fW id), .int .i64 (fM id), .int .i64 (fB id), .int .u64 (fT id), .int .u64 (fI id), .int .u64 (fN id), .int .i64 id, .slice A n c] 135] ∧ g < (W).heap.size ∧ w.heap.size + 1 < (W).heap.size ∧ (W).cell? ⟨g, 1, none⟩ = some (.int .i64 (fW id)) ∧ (W).cell? ⟨w.heap.size, 2, none⟩ = some (.int .u64 (ma : Nat)) ∧ (W).cell? ⟨w.heap.size, 3, none⟩ = some (.int .i64 ea) ∧ (W).cell? ⟨w.heap.size + 1, 2, none⟩ = some (.int .u64 (mb : Nat)) ∧ (W).cell? ⟨w.heap.size + 1, 3, none⟩ = some (.int .i64 eb)) := by
  have p := hL.get (P := pBlk g #[.int .i64 (fK id), .int .i64 (fW id), .int .i64 (fM id), .int .i64 (fB id), .int .u64 (fT id), .int .u64 (fI id), .int .u64 (fN id), .int .i64 id, .slice A n c] 135) (by repeat (first | exact List.mem_cons_self | apply List.mem_cons_of_mem))
  have pa := hL.get (P := pBlk w.heap.size #[.int .i64 ca, .bool na, .int .u64 (ma : Nat), .int .i64 ea] 85) (by repeat (first | exact List.mem_cons_self | apply List.mem_cons_of_mem))
  have pb := hL.get (P := pBlk (w.heap.size + 1) #[.int .i64 cb, .bool nb, .int .u64 (mb : Nat), .int .i64 eb] 85) (by repeat (first | exact List.mem_cons_self | apply List.mem_cons_of_mem))
  exact ⟨hL, p.lt, pb.lt, p.cell 1 _ rfl, pa.cell 2 _ rfl, pa.cell 3 _ rfl, pb.cell 2 _ rfl, pb.cell 3 _ rfl⟩
theorem keepP (hS : (LiveP w W [pBlk (w.heap.size + 1) #[.int .i64 cb, .bool nb, .int .u64 (mb : Nat), .int .i64 eb] 85, pBlk w.heap.size #[.int .i64 ca, .bool na, .int .u64 (ma : Nat), .int .i64 ea] 85, pT (.slice A n c) 16 X, pBlk g #[.int .i64 (fK id), .int .i64 (fW id), .int .i64 (fM id), .int .i64 (fB id), .int .u64 (fT id), .int .u64 (fI id), .int .u64 (fN id), .int .i64 id, .slice A n c] 135] ∧ g < (W).heap.size ∧ w.heap.size + 1 < (W).heap.size ∧ (W).cell? ⟨g, 1, none⟩ = some (.int .i64 (fW id)) ∧ (W).cell? ⟨w.heap.size, 2, none⟩ = some (.int .u64 (ma : Nat)) ∧ (W).cell? ⟨w.heap.size, 3, none⟩ = some (.int .i64 ea) ∧ (W).cell? ⟨w.heap.size + 1, 2, none⟩ = some (.int .u64 (mb : Nat)) ∧ (W).cell? ⟨w.heap.size + 1, 3, none⟩ = some (.int .i64 eb))) (hb : Below W.heap.size W W') : (LiveP w W' [pBlk (w.heap.size + 1) #[.int .i64 cb, .bool nb, .int .u64 (mb : Nat), .int .i64 eb] 85, pBlk w.heap.size #[.int .i64 ca, .bool na, .int .u64 (ma : Nat), .int .i64 ea] 85, pT (.slice A n c) 16 X, pBlk g #[.int .i64 (fK id), .int .i64 (fW id), .int .i64 (fM id), .int .i64 (fB id), .int .u64 (fT id), .int .u64 (fI id), .int .u64 (fN id), .int .i64 id, .slice A n c] 135] ∧ g < (W').heap.size ∧ w.heap.size + 1 < (W').heap.size ∧ (W').cell? ⟨g, 1, none⟩ = some (.int .i64 (fW id)) ∧ (W').cell? ⟨w.heap.size, 2, none⟩ = some (.int .u64 (ma : Nat)) ∧ (W').cell? ⟨w.heap.size, 3, none⟩ = some (.int .i64 ea) ∧ (W').cell? ⟨w.heap.size + 1, 2, none⟩ = some (.int .u64 (mb : Nat)) ∧ (W').cell? ⟨w.heap.size + 1, 3, none⟩ = some (.int .i64 eb)) := boxP (hS.1.go hb)
end
set_option maxRecDepth 100000 in
set_option maxHeartbeats 4000000 in
/-- The bits of a product of two values. -/
theorem product_q {w : World} {g X : Nat} {id : Int} (h1 : 1 ≤ id) (h4 : id ≤ 4) (ca cb : Int) (na nb less : Bool) (ma mb : Nat) (ea eb : Int) (hma : ma < 18446744073709551616) (hmb : mb < 18446744073709551616) (hea : -2000 ≤ ea ∧ ea ≤ 2000) (heb : -2000 ≤ eb ∧ eb ≤ 2000)
    (h0 : 0 ≤ ea + eb - quL id) (hlt : quM id ma ea mb eb < 2 ^ quS id) (h : QuS g id X w) :
    Calls Tryz.prog 180 #[.pointer (some ⟨g, 0, none⟩), .agg #[.int .i64 ca, .bool na, .int .u64 (ma : Nat), .int .i64 ea], .agg #[.int .i64 cb, .bool nb, .int .u64 (mb : Nat), .int .i64 eb], .bool less] w fun e w' => ∃ A1 n1 c1, e = .returned (.slice A1 n1 c1) ∧ IsT w' (.slice A1 n1 c1) 20 (quPr id na ma ea nb mb eb less) ∧ Below w.heap.size w w' := by
  obtain ⟨A, n, c, hp, hv⟩ := h
  have hL0 : LiveP w w [pT (.slice A n c) 16 X, pBlk g #[.int .i64 (fK id), .int .i64 (fW id), .int .i64 (fM id), .int .i64 (fB id), .int .u64 (fT id), .int .u64 (fI id), .int .u64 (fN id), .int .i64 id, .slice A n c] 135] := ((LiveP.start w).put (pBlk_st g #[.int .i64 (fK id), .int .i64 (fW id), .int .i64 (fM id), .int .i64 (fB id), .int .u64 (fT id), .int .u64 (fI id), .int .u64 (fN id), .int .i64 id, .slice A n c] 135) hp).put (pT_st (.slice A n c) 16 X) hv
  have hL := (((hL0.go ((Below.refl w.heap.size w).alloc (Nat.le_refl _) (.cells #[.int .i64 ca, .bool na, .int .u64 (ma : Nat), .int .i64 ea] 85))).put (pBlk_st _ _ _) (pBlk_made w #[.int .i64 ca, .bool na, .int .u64 (ma : Nat), .int .i64 ea] 85)).go ((Below.refl _ _).alloc (Nat.le_refl _) (.cells #[.int .i64 cb, .bool nb, .int .u64 (mb : Nat), .int .i64 eb] 85))).put (pBlk_st _ _ _) (pBlk_madeR (w.alloc (.cells #[.int .i64 ca, .bool na, .int .u64 (ma : Nat), .int .i64 ea] 85)) #[.int .i64 cb, .bool nb, .int .u64 (mb : Nat), .int .i64 eb] 85 (w.heap.size + 1) (by simp))
  have hS0 := boxP (hL.go (Below.refl _ _).drew)
  have hn1 := Lib.hid fun (W' : World) => (of_t W' ma hma).mono (fun e w' (h : TellsT W' 1 ma e w') => (show ∃ v, e = .returned v ∧ IsT w' v 1 ma ∧ Below W'.heap.size W' w' from h))
  have hn2 := Lib.hid fun (W' : World) => (of_t W' mb hmb).mono (fun e w' (h : TellsT W' 1 mb e w') => (show ∃ v, e = .returned v ∧ IsT w' v 1 mb ∧ Below W'.heap.size W' w' from h))
  have hmu := Lib.hid fun (W' : World) (v1 v2 : Value) (a : IsT W' v1 1 ma) (b : IsT W' v2 1 mb) => (mul_t (IsT.isN a) (IsT.isN b) (by decide) (by decide)).mono (fun e w' (h : TellsT W' (1 + 1) (ma * mb) e w') => (show ∃ v, e = .returned v ∧ IsT w' v 2 (ma * mb) ∧ Below W'.heap.size W' w' from h))
  have hql := Lib.hid fun (W' : World) (hS : (LiveP w W' [pBlk (w.heap.size + 1) #[.int .i64 cb, .bool nb, .int .u64 (mb : Nat), .int .i64 eb] 85, pBlk w.heap.size #[.int .i64 ca, .bool na, .int .u64 (ma : Nat), .int .i64 ea] 85, pT (.slice A n c) 16 X, pBlk g #[.int .i64 (fK id), .int .i64 (fW id), .int .i64 (fM id), .int .i64 (fB id), .int .u64 (fT id), .int .u64 (fI id), .int .u64 (fN id), .int .i64 id, .slice A n c] 135] ∧ g < (W').heap.size ∧ w.heap.size + 1 < (W').heap.size ∧ (W').cell? ⟨g, 1, none⟩ = some (.int .i64 (fW id)) ∧ (W').cell? ⟨w.heap.size, 2, none⟩ = some (.int .u64 (ma : Nat)) ∧ (W').cell? ⟨w.heap.size, 3, none⟩ = some (.int .i64 ea) ∧ (W').cell? ⟨w.heap.size + 1, 2, none⟩ = some (.int .u64 (mb : Nat)) ∧ (W').cell? ⟨w.heap.size + 1, 3, none⟩ = some (.int .i64 eb))) => qlow_q (g := g) h1 h4 hS.2.2.2.1
  obtain ⟨V, -, v1, v2, -, v3⟩ := wideQ h1 h4
  have hqb : -600 ≤ quL id ∧ quL id ≤ 600 := by omega
  have hM : quM id ma ea mb eb = ma * mb * 2 ^ (ea + eb - quL id).toNat := rfl
  obtain ⟨R, hR⟩ : ∃ R, quPr id na ma ea nb mb eb less = R := ⟨_, rfl⟩
  have hRb : R = if ((na != nb) != less) = true then quT id (quM id ma ea mb eb) else quM id ma ea mb eb := by rw [← hR]; rfl
  rw [hR]
  obtain ⟨D, hD⟩ : ∃ D : Nat, ea + eb - quL id = D := ⟨(ea + eb - quL id).toNat, by omega⟩
  obtain ⟨Z, hZ⟩ : ∃ Z, quM id ma ea mb eb = Z := ⟨_, rfl⟩
  have hD6 : D ≤ 6000 := by omega
  rw [hZ] at hRb
  have hsh := Lib.hid fun (W' : World) (v : Value) (a : IsT W' v 2 (ma * mb)) => (shl_t (D : Int) 20 Z (IsT.isN a) (by decide) (by rw [← hZ, hM, hD]; congr 2; omega) (by
    rw [← hZ]
    refine Nat.lt_of_lt_of_le hlt ?_
    have hk : ∀ k, quS id ≤ 64 * k → 2 ^ quS id ≤ 18446744073709551616 ^ k := fun k hk => by
      rw [show (18446744073709551616 : Nat) = 2 ^ 64 by decide, ← Nat.pow_mul]
      exact Nat.pow_le_pow_right (by decide) hk
    exact hk 20 (by have := (quS_bnd h1 h4).2.1; omega))).mono (fun e w' (h : TellsT W' 20 Z e w') => (show ∃ v, e = .returned v ∧ IsT w' v 20 Z ∧ Below W'.heap.size W' w' from h))
  obtain ⟨q, hq⟩ : ∃ q, quL id = q := ⟨_, rfl⟩
  rw [hq] at hql hqb hD
  have hwe : Hid (IntKind.i64.wrap (ea + eb) = ea + eb) := by show _ = _; rw [IntKind.wrap_i64]; omega
  have hwd : Hid (IntKind.i64.wrap (ea + eb - q) = (D : Int)) := by show _ = _; rw [IntKind.wrap_i64]; omega
  have hw2 : Hid (ea + eb - q = (D : Int)) := hD
  obtain ⟨qb1, qb2⟩ := hqb
  obtain ⟨ea1, ea2⟩ := hea
  obtain ⟨eb1, eb2⟩ := heb
  clear hD hM hq v1 v2 v3 hR
  go_enter Tryz.func180, Tryz.ntmps180
  go_wp2_with fail
  go_region_held3 (fun w' => (LiveP w w' [pBlk (w.heap.size + 1) #[.int .i64 cb, .bool nb, .int .u64 (mb : Nat), .int .i64 eb] 85, pBlk w.heap.size #[.int .i64 ca, .bool na, .int .u64 (ma : Nat), .int .i64 ea] 85, pT (.slice A n c) 16 X, pBlk g #[.int .i64 (fK id), .int .i64 (fW id), .int .i64 (fM id), .int .i64 (fB id), .int .u64 (fT id), .int .u64 (fI id), .int .u64 (fN id), .int .i64 id, .slice A n c] 135] ∧ g < (w').heap.size ∧ w.heap.size + 1 < (w').heap.size ∧ (w').cell? ⟨g, 1, none⟩ = some (.int .i64 (fW id)) ∧ (w').cell? ⟨w.heap.size, 2, none⟩ = some (.int .u64 (ma : Nat)) ∧ (w').cell? ⟨w.heap.size, 3, none⟩ = some (.int .i64 ea) ∧ (w').cell? ⟨w.heap.size + 1, 2, none⟩ = some (.int .u64 (mb : Nat)) ∧ (w').cell? ⟨w.heap.size + 1, 3, none⟩ = some (.int .i64 eb))) (first | exact hS0 | with_reducible assumption | exact keepP (by with_reducible assumption) (by with_reducible assumption))
    (first
      | (go_at_call 141; with_reducible refine (hn1.out _).mono ?_; rintro e w4 ⟨v4, rfl, hv4, hb4⟩)
      | (go_at_call 141; with_reducible refine (hn2.out _).mono ?_; rintro e w5 ⟨v5, rfl, hv5, hb5⟩)
      | (go_at_call 186; with_reducible refine (hql.out _ (by with_reducible assumption)).mono ?_; rintro e w6 ⟨rfl, rfl⟩)
      | (go_at_call 73; with_reducible refine (hmu.out _ _ _ (by first | with_reducible assumption | exact hv4.below (by with_reducible assumption)) (by first | with_reducible assumption | exact hv5.below (by with_reducible assumption))).mono ?_; rintro e w7 ⟨v7, rfl, hv7, hb7⟩)
      | (go_at_call 72; (try rw [hwe.out]); (try rw [hwd.out]); (try rw [hw2.out]); with_reducible refine (hsh.out _ _ (by first | with_reducible assumption | exact IsT.below hv7 (by with_reducible assumption))).mono ?_; rintro e w8 ⟨v8, rfl, hv8, hb8⟩))
  have hq8 : (LiveP w w8 [pBlk (w.heap.size + 1) #[.int .i64 cb, .bool nb, .int .u64 (mb : Nat), .int .i64 eb] 85, pBlk w.heap.size #[.int .i64 ca, .bool na, .int .u64 (ma : Nat), .int .i64 ea] 85, pT (.slice A n c) 16 X, pBlk g #[.int .i64 (fK id), .int .i64 (fW id), .int .i64 (fM id), .int .i64 (fB id), .int .u64 (fT id), .int .u64 (fI id), .int .u64 (fN id), .int .i64 id, .slice A n c] 135] ∧ g < (w8).heap.size ∧ w.heap.size + 1 < (w8).heap.size ∧ (w8).cell? ⟨g, 1, none⟩ = some (.int .i64 (fW id)) ∧ (w8).cell? ⟨w.heap.size, 2, none⟩ = some (.int .u64 (ma : Nat)) ∧ (w8).cell? ⟨w.heap.size, 3, none⟩ = some (.int .i64 ea) ∧ (w8).cell? ⟨w.heap.size + 1, 2, none⟩ = some (.int .u64 (mb : Nat)) ∧ (w8).cell? ⟨w.heap.size + 1, 3, none⟩ = some (.int .i64 eb)) := by with_reducible assumption
  obtain ⟨A8, c8, z8, rfl, -⟩ := _root_.id hv8
  obtain ⟨n8, hn8⟩ : ∃ n, z8.length = n := ⟨_, rfl⟩
  rw [hn8] at hv8 ⊢
  have hL8 := hq8.1
  have pa := (hL8.get (P := pBlk w.heap.size #[.int .i64 ca, .bool na, .int .u64 (ma : Nat), .int .i64 ea] 85) (by repeat (first | exact List.mem_cons_self | apply List.mem_cons_of_mem))).cell 1 _ rfl
  have pb := (hL8.get (P := pBlk (w.heap.size + 1) #[.int .i64 cb, .bool nb, .int .u64 (mb : Nat), .int .i64 eb] 85) (by repeat (first | exact List.mem_cons_self | apply List.mem_cons_of_mem))).cell 1 _ rfl
  have htu := Lib.hid (turned_q h1 h4 (by decide) (hZ ▸ hlt) hv8 hq8.2.2.2.1)
  have hB8 := hL8.below
  clear hS0 hn1 hn2 hmu hql hsh hwe hwd hw2 hn8 hL hL0 hq8 hL8
  cases hb : ((na != nb) != less) with
  | true =>
    rw [hb, if_pos rfl] at hRb
    have hb1 : (!((!(na == nb)) == less)) = true := hb
    have hb2 : ((!(na == nb)) == less) = false := by simpa using hb1
    clear hb
    go_wp2_with fail
    refine htu.out.mono ?_
    rintro e w9 ⟨A9, n9, c9, rfl, hv9, hb9⟩
    go_wp2
    go_ret
    exact ⟨_, _, _, rfl, by rw [hRb]; exact hv9.up (by decide), hB8.trans (hb9.mono hB8.size)⟩
  | false =>
    rw [hb, if_neg (by decide)] at hRb
    have hb1 : (!((!(na == nb)) == less)) = false := hb
    have hb2 : ((!(na == nb)) == less) = true := by simpa using hb1
    clear hb
    go_wp2
    go_ret
    exact ⟨_, _, _, rfl, by rw [hRb]; exact hv8, hB8⟩
theorem deco_some (id p : Int) (hp0 : 0 ≤ p) (hp1 : p < 18446744073709551616) : ∃ (c : Int) (n : Bool) (m : Nat) (x : Int), Hid (∀ w, VaW w → Calls Tryz.prog 105 #[.int .i64 id, .int .u64 p] w fun e w' => e = .returned (.tuple #[.agg #[.int .i64 c, .bool n, .int .u64 m, .int .i64 x], .int .i64 (fitsV id p)]) ∧ Below w.heap.size w w') := by
  by_cases hf : fitsV id p = 0
  · obtain ⟨h1, h2, h3⟩ := fits_two hf
    rw [hf]
    exact ⟨_, _, _, _, Lib.hid fun w hW => vdec_yes id p h1 h2 hp0 h3 w hW⟩
  · exact ⟨0, false, 0, 0, Lib.hid fun w hW => vdec_no id p hp0 hp1 hf w hW⟩
section
variable {w : World} {g X : Nat} {id a b ca cb ea eb Ea Eb : Int} {na nb less : Bool} {ma mb : Nat}
end
end Go.Proofs.YtobokaafmcfeaaaGreatDoor
namespace Go.Proofs.YtobokaafmcfeaaaGreatDoor
open Go.RowKit Go.Cal
section
variable {w W W' : World} {A A1 : Option Addr} {n c n1 c1 X Y g k : Nat} {id : Int}
set_option maxRecDepth 100000 in
set_option maxHeartbeats 1000000 in
/-- Bits of the other sign. -/
theorem turned_f (h1 : 1 ≤ id) (h4 : id ≤ 4) (hk : k ≤ 20) (hY : Y < 2 ^ quS id) (hb : IsT W (.slice A1 n1 c1) k Y) (hc : W.cell? ⟨g, 1, none⟩ = some (.int .i64 (fW id))) :
    Calls Tryz.prog 96 #[.pointer (some ⟨g, 0, none⟩), .slice A1 n1 c1] W fun e w' => ∃ A2 n2 c2, e = .returned (.slice A2 n2 c2) ∧ IsT w' (.slice A2 n2 c2) 18 (quT id Y) ∧ Fre W.heap.size A2 n2 ∧ Below W.heap.size W w' := by
  obtain ⟨s1, s2, -⟩ := quS_bnd h1 h4
  rcases isT_zero hb with ⟨z1, z2⟩ | ⟨z1, z2⟩
  · have hT : quT id Y = 0 := by unfold quT; rw [if_pos z2]
    rw [hT]
    subst z1
    have hb' : IsT W (.slice A1 0 c1) 18 0 := by rw [z2] at hb; exact hb.more16 (by decide +kernel)
    clear hb z2 hT hY s1 s2 hc
    go_enter Tryz.func96, Tryz.ntmps96
    go_wp2
    go_ret
    exact ⟨_, _, _, rfl, hb', .inl rfl, Below.refl _ _⟩
  · have hT : quT id Y = 2 ^ quS id - Y := by unfold quT; rw [if_neg (by omega)]
    rw [hT]
    have hz : ((n1 : Int) == 0) = false := by simp; omega
    have hsz := Lib.hid (qsz_q h1 h4 hc)
    obtain ⟨S, hS⟩ : ∃ S, quS id = S := ⟨_, rfl⟩
    rw [hS] at hsz hY s1 s2 ⊢
    have hpw := Lib.hid fun w => power_t S (by omega) w
    have hsb := Lib.hid fun (w : World) (v1 v2 : Value) (a : IsT w v1 18 (2 ^ S)) (b : IsT w v2 k Y) => sub_f (IsT.isN a) (IsT.isN b) (by decide) (by omega) (Nat.le_of_lt hY)
    clear hS hT hc hY z2
    go_enter Tryz.func96, Tryz.ntmps96
    go_wp2_with fail
    refine hsz.out.mono ?_
    rintro e w1 ⟨rfl, rfl⟩
    go_wp2_with fail
    refine (hpw.out _).mono ?_
    rintro e w2 ⟨v2, rfl, hv2, hb2⟩
    go_wp2_with fail
    refine (hsb.out _ _ _ hv2 (hb.below hb2)).mono ?_
    rintro e w3 ⟨A3, n3, c3, rfl, hv3, hf3, hb3⟩
    go_wp2
    go_ret
    exact ⟨_, _, _, rfl, hv3, hf3.more hb2.size, hb2.trans (hb3.mono hb2.size)⟩
end
end Go.Proofs.YtobokaafmcfeaaaGreatDoor
