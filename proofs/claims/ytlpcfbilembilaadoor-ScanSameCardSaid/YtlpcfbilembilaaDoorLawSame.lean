/- The law ScanSame, walked. Condition: the table of powers reads as it is laid. -/
import Derived.Test.YtlpcfbilembilaaDoorScanI
import Derived.Test.YtlpcfbilembilaaDoorScanJ
namespace Go.Proofs.YtlpcfbilembilaaDoor
open Go.RowKit Go.Cal
set_option maxRecDepth 100000 in
set_option maxHeartbeats 16000000 in
theorem scanSame_any (v1 : Value) (ex mv ah : Int) (w : World) (hT : Tab10 w) (h1 : ArgB w v1) (_he : -9223372036854775808 ≤ ex ∧ ex ≤ 9223372036854775807) (_hm : -9223372036854775808 ≤ mv ∧ mv ≤ 9223372036854775807) (_ha : -9223372036854775808 ≤ ah ∧ ah ≤ 9223372036854775807) :
    Calls Tryd.prog 6 #[v1, .int .i64 ex, .int .i64 mv, .int .i64 ah] w fun e w' => e = .returned (.bool true) ∧ Below w.heap.size w w' := by
  obtain ⟨A1, cp1, l1, rfl, hr1, hA1, hlc1, hcm1⟩ := h1
  obtain ⟨k1, hk1⟩ : ∃ k, l1.length = k := ⟨_, rfl⟩
  rw [hk1] at hlc1 ⊢
  obtain ⟨m1, hm1⟩ : ∃ m, min k1 100 = m := ⟨_, rfl⟩
  obtain ⟨x, hx⟩ : ∃ x, ex.tmod 301 = x := ⟨_, rfl⟩
  have hxb : -300 ≤ x ∧ x ≤ 300 := by
    have h := Int.natAbs_tmod ex 301
    have h2 := Nat.mod_lt ex.natAbs (show 0 < (301 : Int).natAbs by decide)
    rw [hx] at h
    have h3 : (301 : Int).natAbs = 301 := rfl
    omega
  obtain ⟨q0, hq0, hq1⟩ := and_low mv
  obtain ⟨m, hm⟩ : ∃ m, q0 % 41 = m := ⟨_, rfl⟩
  have hmi : (q0 : Int) % 41 = (m : Int) := by omega
  have hmb : m ≤ 40 := by omega
  obtain ⟨a15, ha, ha15⟩ := and_15 ah
  have hL := (LiveP.start w).put (pR_st A1 l1) hr1
  replace hm := Lib.hid hm
  go_enter Tryd.func6, Tryd.ntmps6
  go_wp2_with fail
  refine (shown_any w hT).mono ?_
  rintro e w1 ⟨rfl, hb⟩
  replace hL := hL.go hb
  clear hb
  go_wp2
  go_loopg [10, 11] m1 (fun g sv iv wr => ∃ i : Nat, iv = .int .i64 i ∧ i + g = m1 ∧ sv = .string (strL (digS [] l1 i)) ∧ Below w1.heap.size w1 wr)
  case atStart => exact ⟨0, rfl, by omega, rfl, Below.refl _ _⟩
  case round =>
    obtain ⟨i, rfl, hik, rfl, hbr⟩ := hrel
    have hLi := hL.go hbr
    by_cases hk0 : gk = 0
    · obtain rfl : i = m1 := by omega
      have hdl : (digS [] l1 i).length ≤ 100 := Nat.le_trans (digS_len [] l1 i) (by simp; omega)
      have hsz := strL_size (digS [] l1 i)
      obtain ⟨S, hS1, eS, zS, yS⟩ := cat_l (digS [] l1 i) [55] ⟨#[55]⟩ rfl 101 (by simp; omega)
      have hex : ((i : Int) < (k1 : Int) ∧ ¬ (i : Int) < 100) ∨ ¬ (i : Int) < (k1 : Int) := by omega
      clear hL hbr
      rcases hex with ⟨hx1, hx2⟩ | hx1
      all_goals
        go_wp2
        go_loopg [12, 13] m (fun g sv iv wy => ∃ i : Nat, iv = .int .i64 i ∧ i + g = m ∧ sv = .string (strL (List.replicate i 48)) ∧ wr = wy)
        case atStart => exact ⟨0, rfl, by omega, rfl, rfl⟩
        case round =>
          obtain ⟨i3, rfl, hik3, rfl, rfl⟩ := hrel
          by_cases hk0 : gk = 0
          · obtain rfl : i3 = m := by omega
            have hlt : ¬ (i3 : Int) < (i3 : Int) := by omega
            have hL := hLi
            obtain ⟨Z, hZ⟩ : ∃ Z, List.replicate i3 (48 : UInt8) = Z := ⟨_, rfl⟩
            have hZl : Z.length = i3 := by rw [← hZ, List.length_replicate]
            rw [hZ]
            have hZs : (strL Z).size = i3 := by rw [strL_size, hZl]
            obtain ⟨y, hy⟩ : ∃ y, min a15 i3 = y := ⟨_, rfl⟩
            have hyi : min (a15 : Int) (i3 : Int) = (y : Int) := by omega
            have hyc : y ≤ i3 := by omega
            have hyci : (y : Int) ≤ (i3 : Int) := by omega
            have hyc0 : (0 : Int) ≤ (y : Int) := by omega
            obtain ⟨K, hK⟩ : ∃ t, Z.take y = t := ⟨_, rfl⟩
            have hcut : (strL Z).extract 0 y = strL K := by rw [strL_cut, hK]
            have hKl : K.length = y := by rw [← hK, List.length_take]; omega
            have hKs : (strL K).size = y := by rw [strL_size, hKl]
            have hKr : K = List.replicate y 48 := by rw [← hK, ← hZ, List.take_replicate, Nat.min_eq_left hyc]
            obtain ⟨ns, hns⟩ : ∃ n, S.length = n := ⟨_, rfl⟩
            rw [hns] at zS yS
            have hSe : S = digT l1 i ++ [55] := by rw [eS.out]; unfold digS; simp
            obtain ⟨x1, hx1'⟩ : ∃ q, x - (i3 : Int) = q := ⟨_, rfl⟩
            obtain ⟨x2, hx2'⟩ : ∃ q, x + (i3 : Int) = q := ⟨_, rfl⟩
            obtain ⟨x3, hx3'⟩ : ∃ q, x2 + (ns : Int) = q := ⟨_, rfl⟩
            obtain ⟨x4, hx4'⟩ : ∃ q, x + (ns : Int) = q := ⟨_, rfl⟩
            have hw1 : IntKind.i64.wrap x1 = x1 := by rw [IntKind.wrap_i64]; omega
            have hw2 : IntKind.i64.wrap x2 = x2 := by rw [IntKind.wrap_i64]; omega
            have hw3 : IntKind.i64.wrap x3 = x3 := by rw [IntKind.wrap_i64]; omega
            have hw4 : IntKind.i64.wrap x4 = x4 := by rw [IntKind.wrap_i64]; omega
            have bx1 : -100000 ≤ x1 ∧ x1 ≤ 100000 := by omega
            have bx3 : -100000 ≤ x3 ∧ x3 ≤ 100000 := by omega
            have bx4 : -100000 ≤ x4 ∧ x4 ≤ 100000 := by omega
            obtain ⟨N1, hN1⟩ : ∃ N, numT x = N := ⟨_, rfl⟩
            obtain ⟨N2, hN2⟩ : ∃ N, numT x1 = N := ⟨_, rfl⟩
            obtain ⟨N3, hN3⟩ : ∃ N, numT x3 = N := ⟨_, rfl⟩
            obtain ⟨N4, hN4⟩ : ∃ N, numT x4 = N := ⟨_, rfl⟩
            have hNl1 : N1.length ≤ 21 := by rw [← hN1]; exact numT_len x (by omega)
            have hNl2 : N2.length ≤ 21 := by rw [← hN2]; exact numT_len x1 bx1
            have hNl3 : N3.length ≤ 21 := by rw [← hN3]; exact numT_len x3 bx3
            have hNl4 : N4.length ≤ 21 := by rw [← hN4]; exact numT_len x4 bx4
            have hNs1 := strL_size N1
            have hNs2 := strL_size N2
            have hNs3 := strL_size N3
            have hNs4 := strL_size N4
            have hn1 : ∀ w, Tab10 w → Calls Tryd.prog 13 #[.int .i64 x] w fun e w' => e = .returned (.string (strL N1)) ∧ Below w.heap.size w w' := fun w h => by
              have := number_any x (by omega) w h
              rw [hN1] at this
              exact this
            have hn2 : ∀ w, Tab10 w → Calls Tryd.prog 13 #[.int .i64 x1] w fun e w' => e = .returned (.string (strL N2)) ∧ Below w.heap.size w w' := fun w h => by
              have := number_any x1 bx1 w h
              rw [hN2] at this
              exact this
            have hn3 : ∀ w, Tab10 w → Calls Tryd.prog 13 #[.int .i64 x3] w fun e w' => e = .returned (.string (strL N3)) ∧ Below w.heap.size w w' := fun w h => by
              have := number_any x3 bx3 w h
              rw [hN3] at this
              exact this
            have hn4 : ∀ w, Tab10 w → Calls Tryd.prog 13 #[.int .i64 x4] w fun e w' => e = .returned (.string (strL N4)) ∧ Below w.heap.size w w' := fun w h => by
              have := number_any x4 bx4 w h
              rw [hN4] at this
              exact this
            obtain ⟨Ta0, hTa0, eTa0, zTa0, yTa0⟩ := cat_l S [101] ⟨#[101]⟩ rfl 200 (by simp; omega)
            obtain ⟨Ta, hTa, eTa, zTa, yTa⟩ := cat_l Ta0 N1 _ rfl 300 (by omega)
            obtain ⟨Tb0, hTb0, eTb0, zTb0, yTb0⟩ := cat_l K S _ rfl 200 (by omega)
            obtain ⟨Tb1, hTb1, eTb1, zTb1, yTb1⟩ := cat_l Tb0 Z _ rfl 300 (by omega)
            obtain ⟨Tb2, hTb2, eTb2, zTb2, yTb2⟩ := cat_l Tb1 [46] ⟨#[46]⟩ rfl 400 (by simp; omega)
            obtain ⟨Tb3, hTb3, eTb3, zTb3, yTb3⟩ := cat_l Tb2 [101] ⟨#[101]⟩ rfl 500 (by simp; omega)
            obtain ⟨Tb, hTb, eTb, zTb, yTb⟩ := cat_l Tb3 N2 _ rfl 600 (by omega)
            obtain ⟨Tc0, hTc0, eTc0, zTc0, yTc0⟩ := cat_r Z [48, 46] ⟨#[48, 46]⟩ rfl 200 (by simp; omega)
            obtain ⟨Tc1, hTc1, eTc1, zTc1, yTc1⟩ := cat_l Tc0 S _ rfl 400 (by omega)
            obtain ⟨Tc2, hTc2, eTc2, zTc2, yTc2⟩ := cat_l Tc1 [69] ⟨#[69]⟩ rfl 500 (by simp; omega)
            obtain ⟨Tc, hTc, eTc, zTc, yTc⟩ := cat_l Tc2 N3 _ rfl 600 (by omega)
            obtain ⟨Td0, hTd0, eTd0, zTd0, yTd0⟩ := cat_r S [46] ⟨#[46]⟩ rfl 200 (by simp; omega)
            obtain ⟨Td1, hTd1, eTd1, zTd1, yTd1⟩ := cat_l Td0 Z _ rfl 400 (by omega)
            obtain ⟨Td2, hTd2, eTd2, zTd2, yTd2⟩ := cat_l Td1 [101] ⟨#[101]⟩ rfl 500 (by simp; omega)
            obtain ⟨Td, hTd, eTd, zTd, yTd⟩ := cat_l Td2 N4 _ rfl 600 (by omega)
            obtain ⟨ia, hia⟩ : ∃ x', itemV false (digT l1 i ++ [55]) x = x' := ⟨_, rfl⟩
            have dW := digT_digs l1 i
            have dl := digT_len l1 i
            have hx3e : x + (i3 : Int) + ((digT l1 i ++ [55]).length : Int) = x3 := by rw [← hSe, hns]; omega
            have hx4e : x + ((digT l1 i ++ [55]).length : Int) = x4 := by rw [← hSe, hns]; omega
            have hIa : itemOf Ta = ia := by rw [eTa.out, eTa0.out, hSe, ← hN1, ← hia]; exact same_ta _ dW x (by omega)
            have hIb : itemOf Tb = ia := by rw [eTb.out, eTb3.out, eTb2.out, eTb1.out, eTb0.out, hSe, ← hN2, ← hZ, hKr, ← hx1', ← hia]; exact same_tb _ dW x (by omega) y i3 hmb
            have hIc : itemOf Tc = ia := by rw [eTc.out, eTc2.out, eTc1.out, eTc0.out, hSe, ← hN3, ← hZ, ← hx3e, ← hia]; exact same_tc _ dW x (by omega) i3 hmb (by omega)
            have hId : itemOf Td = ia := by rw [eTd.out, eTd2.out, eTd1.out, eTd0.out, hSe, ← hN4, ← hZ, ← hx4e, ← hia]; exact same_td _ dW x (by omega) i3 (by omega)
            have hkb := same_is (digT l1 i) x (by omega)
            rw [hia] at hkb
            replace hIa := Lib.hid hIa
            replace hIb := Lib.hid hIb
            replace hIc := Lib.hid hIc
            replace hId := Lib.hid hId
            replace hn1 := Lib.hid hn1
            replace hn2 := Lib.hid hn2
            replace hn3 := Lib.hid hn3
            replace hn4 := Lib.hid hn4
            replace hN1 := Lib.hid hN1
            replace hN2 := Lib.hid hN2
            replace hN3 := Lib.hid hN3
            replace hN4 := Lib.hid hN4
            replace hia := Lib.hid hia
            replace hkb := Lib.hid hkb
            replace hSe := Lib.hid hSe
            replace hZ := Lib.hid hZ
            replace hK := Lib.hid hK
            replace hKr := Lib.hid hKr
            replace hx3e := Lib.hid hx3e
            replace hx4e := Lib.hid hx4e
            clear dW dl hZl hKl hns
            go_wp2_with fail; refine (hn1.out _ (hT.below hL.below)).mono ?_; rintro e u1 ⟨rfl, hb⟩; replace hL := hL.go hb; clear hb; go_wp2_with fail; refine (of_item Ta ia hIa.out (by omega) _).mono ?_; rintro e v1 ⟨A1, n1, c1, rfl, hv, hb⟩; replace hL := (hL.go hb).put (pT_st _ _ _) hv; replace hL := (hL.go ((Below.refl _ _).alloc (Nat.le_refl _) (.cells #[.int .i64 (ia.kind : Nat), .bool ia.neg, .slice A1 n1 c1, .int .i64 ia.k, .int .i64 ia.big, .bool ia.cut] 27))).put (pBlk_st _ _ _) (pBlk_made v1 _ 27); clear hb hv
            go_wp2_with fail
            generalize hwq : v1.alloc (.cells #[.int .i64 (ia.kind : Nat), .bool ia.neg, .slice A1 n1 c1, .int .i64 ia.k, .int .i64 ia.big, .bool ia.cut] 27) = wq at hL ⊢
            have hTq : ∀ W, Below wq.heap.size wq W → Tab10 W := fun W h => hT.below (hL.go h).below
            have hnq := fun (W : World) (h : Below wq.heap.size wq W) => hn2.out W (hTq W h)
            have hoq := fun (W : World) => of_item_n Tb ia hIb.out (by omega) W
            have q1 : ¬ 9223372036854775807 < y + ns := by omega
            have q2 : ¬ 9223372036854775807 < Tb0.length + i3 := by omega
            have q3 : ¬ 9223372036854775807 < Tb1.length + 1 := by omega
            have q4 : ¬ 9223372036854775807 < Tb2.length + 1 := by omega
            have q5 : ¬ 9223372036854775807 < Tb3.length + N2.length := by omega
            replace hnq := Lib.hid hnq
            replace hoq := Lib.hid hoq
            replace hTq := Lib.hid hTq
            go_region_law (first
              | (go_simp; go_at_call 13; refine Calls.mono (hnq.out _ ?_) ?_; (focus ((repeat (first | with_reducible exact Below.refl _ _ | with_reducible exact hb5q | with_reducible refine Below.drew ?_ | (with_reducible refine Below.alloc ?_ ?_ _; rotate_left; (focus (first | omega | (simp; done) | (simp; omega)))))); done)); rintro e w5 ⟨rfl, hb5⟩; (refine (have hb5q : Below wq.heap.size wq w5 := ?_; ?_); (focus (refine chain ?_ hb5; ((repeat (first | with_reducible exact Below.refl _ _ | with_reducible exact hb5q | with_reducible refine Below.drew ?_ | (with_reducible refine Below.alloc ?_ ?_ _; rotate_left; (focus (first | omega | (simp; done) | (simp; omega)))))); done)))); have hz5 := hb5q.size; (first | (refine (have hs5 : pBlk wq.heap.size #[.int .i64 0, .bool false, .slice none 0 0, .int .i64 0, .int .i64 0, .bool false] 27 w5 := ?_; ?_); (focus (refine pBlk_st _ _ _ _ _ ?_ hb5; ((repeat (first | with_reducible exact hs5 | with_reducible refine pBlk.drew ?_ | (with_reducible refine pBlk_made' _ _ _ _ ?_; (focus (first | (simp; done) | with_reducible rfl))) | with_reducible refine pBlk.alloc ?_ _)); done)))) | skip); clear hb5)
              | (go_simp; go_at_call 12; refine Calls.mono (hoq.out _) ?_; rintro e w6 ⟨A2, n2, c2, rfl, hd2, hb6⟩; (refine (have hb6q : Below wq.heap.size wq w6 := ?_; ?_); (focus (refine chain ?_ hb6; ((repeat (first | with_reducible exact Below.refl _ _ | with_reducible exact hb5q | with_reducible refine Below.drew ?_ | (with_reducible refine Below.alloc ?_ ?_ _; rotate_left; (focus (first | omega | (simp; done) | (simp; omega)))))); done)))); have hz6 := hb6q.size; (first | (refine (have hs6 : pBlk wq.heap.size #[.int .i64 0, .bool false, .slice none 0 0, .int .i64 0, .int .i64 0, .bool false] 27 w6 := ?_; ?_); (focus (refine pBlk_st _ _ _ _ _ ?_ hb6; ((repeat (first | with_reducible exact hs5 | with_reducible refine pBlk.drew ?_ | (with_reducible refine pBlk_made' _ _ _ _ ?_; (focus (first | (simp; done) | with_reducible rfl))) | with_reducible refine pBlk.alloc ?_ _)); done))); have r0 := hs6.cell 0 _ rfl; have r1 := hs6.cell 1 _ rfl; have r2 := hs6.cell 2 _ rfl; have r3 := hs6.cell 3 _ rfl; have r4 := hs6.cell 4 _ rfl; have r5 := hs6.cell 5 _ rfl; have f0 := hs6.free 0; have f1 := hs6.free 1; have f2 := hs6.free 2; have f3 := hs6.free 3; have f4 := hs6.free 4; have f5 := hs6.free 5; have hz5 := hs6.lt) | (refine (have hs6 : pBlk w5.heap.size #[.int .i64 0, .bool false, .slice none 0 0, .int .i64 0, .int .i64 0, .bool false] 27 w6 := ?_; ?_); (focus (refine pBlk_st _ _ _ _ _ ?_ hb6; ((repeat (first | with_reducible exact hs5 | with_reducible refine pBlk.drew ?_ | (with_reducible refine pBlk_made' _ _ _ _ ?_; (focus (first | (simp; done) | with_reducible rfl))) | with_reducible refine pBlk.alloc ?_ _)); done))); have r0 := hs6.cell 0 _ rfl; have r1 := hs6.cell 1 _ rfl; have r2 := hs6.cell 2 _ rfl; have r3 := hs6.cell 3 _ rfl; have r4 := hs6.cell 4 _ rfl; have r5 := hs6.cell 5 _ rfl; have f0 := hs6.free 0; have f1 := hs6.free 1; have f2 := hs6.free 2; have f3 := hs6.free 3; have f4 := hs6.free 4; have f5 := hs6.free 5; have hz5 := hs6.lt) | skip); clear hb6))
            all_goals
              first
                | (have key := six_live (wq := wq) (s := wq.heap.size) (b0 := .int .i64 (ia.kind : Nat)) (b1 := .bool ia.neg) (b2 := .slice A2 n2 c2) (b3 := .int .i64 ia.k) (b4 := .int .i64 ia.big) (b5 := .bool ia.cut) hd2 hs6 (by first | (simp; done) | (simp; omega) | (have := hs5.lt; omega)) (Nat.le_refl _) hb6q; generalize hw7 : ((((((w6.setCell ⟨wq.heap.size, 0, none⟩ (.int .i64 (ia.kind : Nat))).setCell ⟨wq.heap.size, 1, none⟩ (.bool ia.neg)).setCell ⟨wq.heap.size, 2, none⟩ (.slice A2 n2 c2)).setCell ⟨wq.heap.size, 3, none⟩ (.int .i64 ia.k)).setCell ⟨wq.heap.size, 4, none⟩ (.int .i64 ia.big)).setCell ⟨wq.heap.size, 5, none⟩ (.bool ia.cut)) = w7 at key ⊢; clear hw7; generalize hs7 : wq.heap.size = s7 at key ⊢; obtain ⟨kA, kB, kC⟩ := key; rw [← hs7] at kC; have key := And.intro kA (And.intro kB kC); clear kA kB kC)
                | (have key := six_live (wq := wq) (s := w5.heap.size) (b0 := .int .i64 (ia.kind : Nat)) (b1 := .bool ia.neg) (b2 := .slice A2 n2 c2) (b3 := .int .i64 ia.k) (b4 := .int .i64 ia.big) (b5 := .bool ia.cut) hd2 hs6 (by first | (simp; done) | (simp; omega) | omega) hb5q.size hb6q; generalize hw7 : ((((((w6.setCell ⟨w5.heap.size, 0, none⟩ (.int .i64 (ia.kind : Nat))).setCell ⟨w5.heap.size, 1, none⟩ (.bool ia.neg)).setCell ⟨w5.heap.size, 2, none⟩ (.slice A2 n2 c2)).setCell ⟨w5.heap.size, 3, none⟩ (.int .i64 ia.k)).setCell ⟨w5.heap.size, 4, none⟩ (.int .i64 ia.big)).setCell ⟨w5.heap.size, 5, none⟩ (.bool ia.cut)) = w7 at key ⊢; clear hw7; generalize hs7 : w5.heap.size = s7 at key ⊢)
                | (have key := one_live (wq := wq) (cs := #[.int .i64 (ia.kind : Nat), .bool ia.neg, .slice A2 n2 c2, .int .i64 ia.k, .int .i64 ia.big, .bool ia.cut]) (t := 27) hd2 hb6q; generalize hw7 : w6.alloc (.cells #[.int .i64 (ia.kind : Nat), .bool ia.neg, .slice A2 n2 c2, .int .i64 ia.k, .int .i64 ia.big, .bool ia.cut] 27) = w7 at key ⊢; clear hw7; generalize hs7 : w6.heap.size = s7 at key ⊢)
              obtain ⟨kA, kB, kC⟩ := key
              replace hL := ((hL.go kC).put (pT_st _ _ _) kA).put (pBlk_st _ _ _) kB
              clear kA kB kC hb6q hd2 hs7
              go_wp2_with fail; refine (hn3.out _ (hT.below hL.below)).mono ?_; rintro e u3 ⟨rfl, hb⟩; replace hL := hL.go hb; clear hb; go_wp2_with fail; refine (of_item Tc ia hIc.out (by omega) _).mono ?_; rintro e v3 ⟨A3, n3, c3, rfl, hv, hb⟩; replace hL := (hL.go hb).put (pT_st _ _ _) hv; replace hL := (hL.go ((Below.refl _ _).alloc (Nat.le_refl _) (.cells #[.int .i64 (ia.kind : Nat), .bool ia.neg, .slice A3 n3 c3, .int .i64 ia.k, .int .i64 ia.big, .bool ia.cut] 27))).put (pBlk_st _ _ _) (pBlk_made v3 _ 27); clear hb hv
              go_wp2_with fail; refine (hn4.out _ (hT.below hL.below)).mono ?_; rintro e u4 ⟨rfl, hb⟩; replace hL := hL.go hb; clear hb; go_wp2_with fail; refine (of_item Td ia hId.out (by omega) _).mono ?_; rintro e v4 ⟨A4, n4, c4, rfl, hv, hb⟩; replace hL := (hL.go hb).put (pT_st _ _ _) hv; replace hL := (hL.go ((Below.refl _ _).alloc (Nat.le_refl _) (.cells #[.int .i64 (ia.kind : Nat), .bool ia.neg, .slice A4 n4 c4, .int .i64 ia.k, .int .i64 ia.big, .bool ia.cut] 27))).put (pBlk_st _ _ _) (pBlk_made v4 _ 27); clear hb hv
              have B1 := hL.get (P := pBlk v1.heap.size #[.int .i64 (ia.kind : Nat), .bool ia.neg, .slice A1 n1 c1, .int .i64 ia.k, .int .i64 ia.big, .bool ia.cut] 27) (by repeat (first | exact List.mem_cons_self | apply List.mem_cons_of_mem)); have g10 := B1.cell 0 _ rfl; have g11 := B1.cell 1 _ rfl; have g12 := B1.cell 2 _ rfl; have g13 := B1.cell 3 _ rfl; have g14 := B1.cell 4 _ rfl; have g15 := B1.cell 5 _ rfl; clear B1
              have B2 := hL.get (P := pBlk s7 #[.int .i64 (ia.kind : Nat), .bool ia.neg, .slice A2 n2 c2, .int .i64 ia.k, .int .i64 ia.big, .bool ia.cut] 27) (by repeat (first | exact List.mem_cons_self | apply List.mem_cons_of_mem)); have g20 := B2.cell 0 _ rfl; have g21 := B2.cell 1 _ rfl; have g22 := B2.cell 2 _ rfl; have g23 := B2.cell 3 _ rfl; have g24 := B2.cell 4 _ rfl; have g25 := B2.cell 5 _ rfl; clear B2
              go_wp2_with fail; refine (same_any (it := ia) _ ⟨_, rfl, hL.get (P := pT (.slice A1 n1 c1) 2000 ia.d) (by repeat (first | exact List.mem_cons_self | apply List.mem_cons_of_mem))⟩ ⟨_, rfl, hL.get (P := pT (.slice A2 n2 c2) 2000 ia.d) (by repeat (first | exact List.mem_cons_self | apply List.mem_cons_of_mem))⟩).mono ?_; rintro e wz ⟨rfl, hb⟩; replace hL := hL.go hb; clear hb
              clear g10 g11 g12 g13 g14 g15 g20 g21 g22 g23 g24 g25
              have B1 := hL.get (P := pBlk v1.heap.size #[.int .i64 (ia.kind : Nat), .bool ia.neg, .slice A1 n1 c1, .int .i64 ia.k, .int .i64 ia.big, .bool ia.cut] 27) (by repeat (first | exact List.mem_cons_self | apply List.mem_cons_of_mem)); have g10 := B1.cell 0 _ rfl; have g11 := B1.cell 1 _ rfl; have g12 := B1.cell 2 _ rfl; have g13 := B1.cell 3 _ rfl; have g14 := B1.cell 4 _ rfl; have g15 := B1.cell 5 _ rfl; clear B1
              have B3 := hL.get (P := pBlk v3.heap.size #[.int .i64 (ia.kind : Nat), .bool ia.neg, .slice A3 n3 c3, .int .i64 ia.k, .int .i64 ia.big, .bool ia.cut] 27) (by repeat (first | exact List.mem_cons_self | apply List.mem_cons_of_mem)); have g30 := B3.cell 0 _ rfl; have g31 := B3.cell 1 _ rfl; have g32 := B3.cell 2 _ rfl; have g33 := B3.cell 3 _ rfl; have g34 := B3.cell 4 _ rfl; have g35 := B3.cell 5 _ rfl; clear B3
              go_wp2_with fail; refine (same_any (it := ia) _ ⟨_, rfl, hL.get (P := pT (.slice A1 n1 c1) 2000 ia.d) (by repeat (first | exact List.mem_cons_self | apply List.mem_cons_of_mem))⟩ ⟨_, rfl, hL.get (P := pT (.slice A3 n3 c3) 2000 ia.d) (by repeat (first | exact List.mem_cons_self | apply List.mem_cons_of_mem))⟩).mono ?_; rintro e wz ⟨rfl, hb⟩; replace hL := hL.go hb; clear hb
              clear g10 g11 g12 g13 g14 g15 g30 g31 g32 g33 g34 g35
              have B1 := hL.get (P := pBlk v1.heap.size #[.int .i64 (ia.kind : Nat), .bool ia.neg, .slice A1 n1 c1, .int .i64 ia.k, .int .i64 ia.big, .bool ia.cut] 27) (by repeat (first | exact List.mem_cons_self | apply List.mem_cons_of_mem)); have g10 := B1.cell 0 _ rfl; have g11 := B1.cell 1 _ rfl; have g12 := B1.cell 2 _ rfl; have g13 := B1.cell 3 _ rfl; have g14 := B1.cell 4 _ rfl; have g15 := B1.cell 5 _ rfl; clear B1
              have B4 := hL.get (P := pBlk v4.heap.size #[.int .i64 (ia.kind : Nat), .bool ia.neg, .slice A4 n4 c4, .int .i64 ia.k, .int .i64 ia.big, .bool ia.cut] 27) (by repeat (first | exact List.mem_cons_self | apply List.mem_cons_of_mem)); have g40 := B4.cell 0 _ rfl; have g41 := B4.cell 1 _ rfl; have g42 := B4.cell 2 _ rfl; have g43 := B4.cell 3 _ rfl; have g44 := B4.cell 4 _ rfl; have g45 := B4.cell 5 _ rfl; clear B4
              go_wp2_with fail; refine (same_any (it := ia) _ ⟨_, rfl, hL.get (P := pT (.slice A1 n1 c1) 2000 ia.d) (by repeat (first | exact List.mem_cons_self | apply List.mem_cons_of_mem))⟩ ⟨_, rfl, hL.get (P := pT (.slice A4 n4 c4) 2000 ia.d) (by repeat (first | exact List.mem_cons_self | apply List.mem_cons_of_mem))⟩).mono ?_; rintro e wz ⟨rfl, hb⟩; replace hL := hL.go hb; clear hb
              clear g11 g12 g15 g40 g41 g42 g43 g44 g45
              have B1 := hL.get (P := pBlk v1.heap.size #[.int .i64 (ia.kind : Nat), .bool ia.neg, .slice A1 n1 c1, .int .i64 ia.k, .int .i64 ia.big, .bool ia.cut] 27) (by repeat (first | exact List.mem_cons_self | apply List.mem_cons_of_mem)); have g10 := B1.cell 0 _ rfl; have g11 := B1.cell 1 _ rfl; have g12 := B1.cell 2 _ rfl; have g13 := B1.cell 3 _ rfl; have g14 := B1.cell 4 _ rfl; have g15 := B1.cell 5 _ rfl; clear B1
              obtain ⟨hkd, hbig⟩ := hkb.out
              have hkd1 : (((ia.kind : Nat) : Int) == 1) = true := by rw [hkd]; rfl
              have hkd2 : decide (((ia.kind : Nat) : Int) = 1) = true := by rw [hkd]; rfl
              have hkd3 : (ia.kind == 1) = true := by rw [hkd]; rfl
              have hkd4 : decide (ia.kind = 1) = true := by rw [hkd]; rfl
              replace hkd := Lib.hid hkd
              by_cases hbz : ia.big = 0
              · have hkx := hbig.resolve_left (fun h => h hbz)
                go_wp2
                go_ret
                exact ⟨rfl, hL.below⟩
              · have hbz1 : (ia.big != 0) = true := by simpa using hbz
                go_wp2
                go_ret
                exact ⟨rfl, hL.below⟩
          · have hlt : (i3 : Int) < (m : Int) := by omega
            have hstep := zeroT_step i3
            have hr3 : (List.replicate i3 (48 : UInt8)).length ≤ 40 := by rw [List.length_replicate]; omega
            have hs3 := strL_size (List.replicate i3 48)
            go_wp2
            go_roundg (gk - 1)
            case measure => omega
            case rel => exact ⟨i3 + 1, by go_num, by omega, by first | rfl | rw [hstep], rfl⟩
    · have hi1 : (i : Int) < (k1 : Int) := by omega
      have hi2 : (i : Int) < 100 := by omega
      have hsz := strL_size (digS [] l1 i)
      have hdl : (digS [] l1 i).length ≤ 300 := Nat.le_trans (digS_len [] l1 i) (by first | omega | (simp; omega))
      obtain ⟨x, hx⟩ : ∃ x, l1.getD i 0 = x := ⟨_, rfl⟩
      obtain ⟨b, off, hA, hbb⟩ := hr1.place.resolve_left (fun e => by rw [e] at hk1; simp at hk1; omega)
      subst hA
      have hcell := (hLi.get (P := pR (some ⟨b, off, none⟩) l1) (by repeat (first | exact List.mem_cons_self | apply List.mem_cons_of_mem))).cells b off rfl i (by omega)
      rw [hx] at hcell
      have hstep := digS_step [] l1 i (by omega)
      rw [hx] at hstep
      obtain ⟨ch, hch⟩ : ∃ ch, UInt8.ofNat (48 + x.toNat % 10) = ch := ⟨_, rfl⟩
      have hcv : ch.toNat = 48 + x.toNat % 10 := by rw [← hch, UInt8.toNat_ofNat']; omega
      rw [hch] at hstep
      obtain ⟨xi, hxi⟩ : ∃ xi : Int, ((x.toNat : Nat) : Int) = xi := ⟨_, rfl⟩
      have hxb : 0 ≤ xi ∧ xi ≤ 255 := by have := x.toNat_lt; omega
      obtain ⟨y, hy, hy9⟩ : ∃ y : Nat, xi % 10 = (y : Int) ∧ y ≤ 9 := ⟨(xi % 10).toNat, by omega, by omega⟩
      have hyc : (48 : Int) + (y : Int) = (ch.toNat : Int) := by omega
      have hcb : ch.toNat ≤ 57 := by omega
      rw [hxi] at hcell
      have hsc : (strL [ch]).size = 1 := strL_size [ch]
      have hcvt := fun W g h => conv_one W g ch h
      have hbr2 := fun o => hbr.alloc hbr.size o
      replace hch := Lib.hid hch
      replace hx := Lib.hid hx
      replace hcv := Lib.hid hcv
      obtain ⟨hxb0, hxb1⟩ := hxb
      go_wp2
      go_roundg (gk - 1)
      case measure => omega
      case rel => exact ⟨i + 1, by go_num, by omega, by first | rfl | rw [hstep], hbr2 _⟩
end Go.Proofs.YtlpcfbilembilaaDoor
