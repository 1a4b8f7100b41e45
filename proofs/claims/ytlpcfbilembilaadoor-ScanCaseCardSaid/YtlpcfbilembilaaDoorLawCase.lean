/- The law ScanCase, walked. Condition: the table of powers reads as it is laid. -/
import Derived.Test.YtlpcfbilembilaaDoorScanJ
namespace Go.Proofs.YtlpcfbilembilaaDoor
open Go.RowKit Go.Cal
set_option maxRecDepth 100000 in
set_option maxHeartbeats 4000000 in
theorem scanCase_any (v1 v2 : Value) (ex zr : Int) (w : World) (hT : Tab10 w) (h1 : ArgB w v1) (h2 : ArgB w v2) (_he : -9223372036854775808 ≤ ex ∧ ex ≤ 9223372036854775807) (_hz : -9223372036854775808 ≤ zr ∧ zr ≤ 9223372036854775807) :
    Calls Tryd.prog 9 #[v1, v2, .int .i64 ex, .int .i64 zr] w fun e w' => e = .returned (.bool true) ∧ Below w.heap.size w w' := by
  obtain ⟨A1, cp1, l1, rfl, hr1, hA1, hlc1, hcm1⟩ := h1
  obtain ⟨A2, cp2, l2, rfl, hr2, hA2, hlc2, hcm2⟩ := h2
  obtain ⟨k1, hk1⟩ : ∃ k, l1.length = k := ⟨_, rfl⟩
  obtain ⟨k2, hk2⟩ : ∃ k, l2.length = k := ⟨_, rfl⟩
  rw [hk1] at hlc1 ⊢
  rw [hk2] at hlc2 ⊢
  obtain ⟨m1, hm1⟩ : ∃ m, min k1 60 = m := ⟨_, rfl⟩
  obtain ⟨m2, hm2⟩ : ∃ m, min k2 60 = m := ⟨_, rfl⟩
  obtain ⟨x0, hx0, hx1⟩ := and_low ex
  obtain ⟨x, hx⟩ : ∃ x, x0 % 2001 = x := ⟨_, rfl⟩
  have hxi : (x0 : Int) % 2001 = (x : Int) := by omega
  have hxb : x ≤ 2000 := by omega
  obtain ⟨z, hz, hz15⟩ := and_15 zr
  have hL := ((LiveP.start w).put (pR_st A1 l1) hr1).put (pR_st A2 l2) hr2
  replace hx := Lib.hid hx
  go_enter Tryd.func9, Tryd.ntmps9
  go_wp2_with fail
  refine (shown_any w hT).mono ?_
  rintro e w1 ⟨rfl, hb⟩
  replace hL := hL.go hb
  clear hb
  go_wp2
  go_loopg [10, 11] m1 (fun g sv iv wr => ∃ i : Nat, iv = .int .i64 i ∧ i + g = m1 ∧ sv = .string (strL (digS [] l1 i)) ∧ Below w1.heap.size w1 wr)
  case atStart => exact ⟨0, rfl, by omega, rfl, Below.refl _ _⟩
  case round =>
    obtain ⟨i, rfl, hik, rfl, hbr⟩ := hrel
    have hLi := hL.go hbr
    by_cases hk0 : gk = 0
    · obtain rfl : i = m1 := by omega
      have hdl : (digS [] l1 i).length ≤ 60 := Nat.le_trans (digS_len [] l1 i) (by simp; omega)
      have hsz := strL_size (digS [] l1 i)
      obtain ⟨S1, hS1, eS1, zS1, yS1⟩ := cat_l (digS [] l1 i) [48, 46] ⟨#[48, 46]⟩ rfl 62 (by simp; omega)
      have hex : ((i : Int) < (k1 : Int) ∧ ¬ (i : Int) < 60) ∨ ¬ (i : Int) < (k1 : Int) := by omega
      clear hL hbr
      rcases hex with ⟨hx1, hx2⟩ | hx1
      all_goals
        go_wp2
        go_loopg [10, 12] m2 (fun g sv iv wy => ∃ i : Nat, iv = .int .i64 i ∧ i + g = m2 ∧ sv = .string (strL (digS S1 l2 i)) ∧ Below wr.heap.size wr wy)
        case atStart => exact ⟨0, rfl, by omega, by unfold digS digT; simp, Below.refl _ _⟩
        case round =>
          obtain ⟨i2, rfl, hik2, rfl, hbr⟩ := hrel
          have hLi := hLi.go hbr
          by_cases hk0 : gk = 0
          · obtain rfl : i2 = m2 := by omega
            have hex2 : ((i2 : Int) < (k2 : Int) ∧ ¬ (i2 : Int) < 60) ∨ ¬ (i2 : Int) < (k2 : Int) := by omega
            have hSl : (digS S1 l2 i2).length ≤ 122 := Nat.le_trans (digS_len S1 l2 i2) (by omega)
            obtain ⟨S, hS⟩ : ∃ S, digS S1 l2 i2 = S := ⟨_, rfl⟩
            rw [hS] at hSl
            simp only [hS]
            have hSs := strL_size S
            have hS' : S = digT l1 i ++ [48, 46] ++ digT l2 i2 := by rw [← hS, eS1.out]; unfold digS; simp
            obtain ⟨N, hN⟩ : ∃ N, Lib.decDigits x = N := ⟨_, rfl⟩
            have hNl : N.length ≤ 20 := by rw [← hN]; exact dec_few x (by omega)
            have hNs := strL_size N
            obtain ⟨Z, hZ⟩ : ∃ Z, List.replicate z (48 : UInt8) = Z := ⟨_, rfl⟩
            have hZl : Z.length ≤ 15 := by rw [← hZ, List.length_replicate]; exact hz15
            have hZs := strL_size Z
            obtain ⟨ia, hia⟩ : ∃ x', itemV false (digT l1 i ++ [48] ++ digT l2 i2) ((x : Int) - ((digT l2 i2).length : Int)) = x' := ⟨_, rfl⟩
            obtain ⟨ja, hid⟩ : ∃ x', itemV false (digT l1 i ++ [48] ++ digT l2 i2) (-(x : Int) - ((digT l2 i2).length : Int)) = x' := ⟨_, rfl⟩
            have hkd : ia.kind = 1 := by rw [← hia]; exact item_kind _ _
            have hkd1 : (((ia.kind : Nat) : Int) == 1) = true := by rw [hkd]; rfl
            have hkd2 : decide (((ia.kind : Nat) : Int) = 1) = true := by rw [hkd]; rfl
            have hkd3 : (ia.kind == 1) = true := by rw [hkd]; rfl
            have hkd4 : decide (ia.kind = 1) = true := by rw [hkd]; rfl
            have dW := digT_digs l1 i
            have dP := digT_digs l2 i2
            obtain ⟨Ta0, hTa0, eTa0, zTa0, yTa0⟩ := cat_l S [101] ⟨#[101]⟩ rfl 200 (by simp; omega)
            obtain ⟨Ta, hTa, eTa, zTa, yTa⟩ := cat_l Ta0 N _ rfl 300 (by omega)
            obtain ⟨Tb0, hTb0, eTb0, zTb0, yTb0⟩ := cat_l S [69, 43] ⟨#[69, 43]⟩ rfl 200 (by simp; omega)
            obtain ⟨Tb1, hTb1, eTb1, zTb1, yTb1⟩ := cat_l Tb0 Z _ rfl 300 (by omega)
            obtain ⟨Tb, hTb, eTb, zTb, yTb⟩ := cat_l Tb1 N _ rfl 400 (by omega)
            obtain ⟨Tc0, hTc0, eTc0, zTc0, yTc0⟩ := cat_r S [48, 48] ⟨#[48, 48]⟩ rfl 200 (by simp; omega)
            obtain ⟨Tc1, hTc1, eTc1, zTc1, yTc1⟩ := cat_l Tc0 [48, 48, 101] ⟨#[48, 48, 101]⟩ rfl 300 (by simp; omega)
            obtain ⟨Tc2, hTc2, eTc2, zTc2, yTc2⟩ := cat_l Tc1 Z _ rfl 400 (by omega)
            obtain ⟨Tc, hTc, eTc, zTc, yTc⟩ := cat_l Tc2 N _ rfl 500 (by omega)
            obtain ⟨Td0, hTd0, eTd0, zTd0, yTd0⟩ := cat_l S [101, 45] ⟨#[101, 45]⟩ rfl 200 (by simp; omega)
            obtain ⟨Td1, hTd1, eTd1, zTd1, yTd1⟩ := cat_l Td0 Z _ rfl 300 (by omega)
            obtain ⟨Td, hTd, eTd, zTd, yTd⟩ := cat_l Td1 N _ rfl 400 (by omega)
            obtain ⟨Tf0, hTf0, eTf0, zTf0, yTf0⟩ := cat_l S [69, 45] ⟨#[69, 45]⟩ rfl 200 (by simp; omega)
            obtain ⟨Tf, hTf, eTf, zTf, yTf⟩ := cat_l Tf0 N _ rfl 300 (by omega)
            have hIa : itemOf Ta = ia := by rw [eTa.out, eTa0.out, hS', ← hN, ← hia]; exact case_ta _ _ dW dP x hxb
            have hIb : itemOf Tb = ia := by rw [eTb.out, eTb1.out, eTb0.out, hS', ← hN, ← hZ, ← hia]; exact case_tb _ _ dW dP x hxb z
            have hIc : itemOf Tc = ia := by rw [eTc.out, eTc2.out, eTc1.out, eTc0.out, hS', ← hN, ← hZ, ← hia]; exact case_tc _ _ dW dP x hxb z
            have hId : itemOf Td = ja := by rw [eTd.out, eTd1.out, eTd0.out, hS', ← hN, ← hZ, ← hid]; exact case_td _ _ dW dP x hxb z
            have hIf : itemOf Tf = ja := by rw [eTf.out, eTf0.out, hS', ← hN, ← hid]; exact case_tf _ _ dW dP x hxb
            have hnum : ∀ w, Tab10 w → Calls Tryd.prog 13 #[.int .i64 x] w fun e w' => e = .returned (.string (strL N)) ∧ Below w.heap.size w w' := fun w h => by
              have := number_any (x : Int) (by omega) w h
              rw [numT_nat, hN] at this
              exact this
            replace hIa := Lib.hid hIa
            replace hIb := Lib.hid hIb
            replace hIc := Lib.hid hIc
            replace hId := Lib.hid hId
            replace hIf := Lib.hid hIf
            replace hnum := Lib.hid hnum
            replace hia := Lib.hid hia
            replace hid := Lib.hid hid
            replace hN := Lib.hid hN
            replace hkd := Lib.hid hkd
            replace hS := Lib.hid hS
            replace hS' := Lib.hid hS'
            clear dW dP hbr
            rcases hex2 with ⟨hx3, hx4⟩ | hx3
            all_goals
              go_wp2
              go_loopg [13, 14] z (fun g sv iv wy => ∃ i : Nat, iv = .int .i64 i ∧ i + g = z ∧ sv = .string (strL (List.replicate i 48)) ∧ wr = wy)
              case atStart => exact ⟨0, rfl, by omega, rfl, rfl⟩
              case round =>
                obtain ⟨i3, rfl, hik3, rfl, rfl⟩ := hrel
                by_cases hk0 : gk = 0
                · obtain rfl : i3 = z := by omega
                  have hL := hLi
                  have hlt : ¬ (i3 : Int) < (i3 : Int) := by omega
                  rw [hZ]
                  replace hZ := Lib.hid hZ
                  go_wp2_with fail; refine (hnum.out _ (hT.below hL.below)).mono ?_; rintro e u1 ⟨rfl, hb⟩; replace hL := hL.go hb; clear hb; go_wp2_with fail; refine (of_item Ta ia hIa.out (by omega) _).mono ?_; rintro e v1 ⟨A1, n1, c1, rfl, hv, hb⟩; replace hL := (hL.go hb).put (pT_st _ _ _) hv; replace hL := (hL.go ((Below.refl _ _).alloc (Nat.le_refl _) (.cells #[.int .i64 (ia.kind : Nat), .bool ia.neg, .slice A1 n1 c1, .int .i64 ia.k, .int .i64 ia.big, .bool ia.cut] 27))).put (pBlk_st _ _ _) (pBlk_made v1 _ 27); clear hb hv
                  go_wp2_with fail; refine (hnum.out _ (hT.below hL.below)).mono ?_; rintro e u2 ⟨rfl, hb⟩; replace hL := hL.go hb; clear hb; go_wp2_with fail; refine (of_item Tb ia hIb.out (by omega) _).mono ?_; rintro e v2 ⟨A2, n2, c2, rfl, hv, hb⟩; replace hL := (hL.go hb).put (pT_st _ _ _) hv; replace hL := (hL.go ((Below.refl _ _).alloc (Nat.le_refl _) (.cells #[.int .i64 (ia.kind : Nat), .bool ia.neg, .slice A2 n2 c2, .int .i64 ia.k, .int .i64 ia.big, .bool ia.cut] 27))).put (pBlk_st _ _ _) (pBlk_made v2 _ 27); clear hb hv
                  go_wp2_with fail; refine (hnum.out _ (hT.below hL.below)).mono ?_; rintro e u3 ⟨rfl, hb⟩; replace hL := hL.go hb; clear hb; go_wp2_with fail; refine (of_item Tc ia hIc.out (by omega) _).mono ?_; rintro e v3 ⟨A3, n3, c3, rfl, hv, hb⟩; replace hL := (hL.go hb).put (pT_st _ _ _) hv; replace hL := (hL.go ((Below.refl _ _).alloc (Nat.le_refl _) (.cells #[.int .i64 (ia.kind : Nat), .bool ia.neg, .slice A3 n3 c3, .int .i64 ia.k, .int .i64 ia.big, .bool ia.cut] 27))).put (pBlk_st _ _ _) (pBlk_made v3 _ 27); clear hb hv
                  go_wp2_with fail; refine (hnum.out _ (hT.below hL.below)).mono ?_; rintro e u4 ⟨rfl, hb⟩; replace hL := hL.go hb; clear hb; go_wp2_with fail; refine (of_item Td ja hId.out (by omega) _).mono ?_; rintro e v4 ⟨A4, n4, c4, rfl, hv, hb⟩; replace hL := (hL.go hb).put (pT_st _ _ _) hv; replace hL := (hL.go ((Below.refl _ _).alloc (Nat.le_refl _) (.cells #[.int .i64 (ja.kind : Nat), .bool ja.neg, .slice A4 n4 c4, .int .i64 ja.k, .int .i64 ja.big, .bool ja.cut] 27))).put (pBlk_st _ _ _) (pBlk_made v4 _ 27); clear hb hv
                  go_wp2_with fail; refine (hnum.out _ (hT.below hL.below)).mono ?_; rintro e u5 ⟨rfl, hb⟩; replace hL := hL.go hb; clear hb; go_wp2_with fail; refine (of_item Tf ja hIf.out (by omega) _).mono ?_; rintro e v5 ⟨A5, n5, c5, rfl, hv, hb⟩; replace hL := (hL.go hb).put (pT_st _ _ _) hv; replace hL := (hL.go ((Below.refl _ _).alloc (Nat.le_refl _) (.cells #[.int .i64 (ja.kind : Nat), .bool ja.neg, .slice A5 n5 c5, .int .i64 ja.k, .int .i64 ja.big, .bool ja.cut] 27))).put (pBlk_st _ _ _) (pBlk_made v5 _ 27); clear hb hv
                  have B1 := hL.get (P := pBlk v1.heap.size #[.int .i64 (ia.kind : Nat), .bool ia.neg, .slice A1 n1 c1, .int .i64 ia.k, .int .i64 ia.big, .bool ia.cut] 27) (by repeat (first | exact List.mem_cons_self | apply List.mem_cons_of_mem)); have g10 := B1.cell 0 _ rfl; have g11 := B1.cell 1 _ rfl; have g12 := B1.cell 2 _ rfl; have g13 := B1.cell 3 _ rfl; have g14 := B1.cell 4 _ rfl; have g15 := B1.cell 5 _ rfl; clear B1
                  have B2 := hL.get (P := pBlk v2.heap.size #[.int .i64 (ia.kind : Nat), .bool ia.neg, .slice A2 n2 c2, .int .i64 ia.k, .int .i64 ia.big, .bool ia.cut] 27) (by repeat (first | exact List.mem_cons_self | apply List.mem_cons_of_mem)); have g20 := B2.cell 0 _ rfl; have g21 := B2.cell 1 _ rfl; have g22 := B2.cell 2 _ rfl; have g23 := B2.cell 3 _ rfl; have g24 := B2.cell 4 _ rfl; have g25 := B2.cell 5 _ rfl; clear B2
                  go_wp2_with fail; refine (same_any (it := ia) _ ⟨_, rfl, hL.get (P := pT (.slice A1 n1 c1) 2000 ia.d) (by repeat (first | exact List.mem_cons_self | apply List.mem_cons_of_mem))⟩ ⟨_, rfl, hL.get (P := pT (.slice A2 n2 c2) 2000 ia.d) (by repeat (first | exact List.mem_cons_self | apply List.mem_cons_of_mem))⟩).mono ?_; rintro e wz ⟨rfl, hb⟩; replace hL := hL.go hb; clear hb
                  clear g10 g11 g12 g13 g14 g15 g20 g21 g22 g23 g24 g25
                  have B1 := hL.get (P := pBlk v1.heap.size #[.int .i64 (ia.kind : Nat), .bool ia.neg, .slice A1 n1 c1, .int .i64 ia.k, .int .i64 ia.big, .bool ia.cut] 27) (by repeat (first | exact List.mem_cons_self | apply List.mem_cons_of_mem)); have g10 := B1.cell 0 _ rfl; have g11 := B1.cell 1 _ rfl; have g12 := B1.cell 2 _ rfl; have g13 := B1.cell 3 _ rfl; have g14 := B1.cell 4 _ rfl; have g15 := B1.cell 5 _ rfl; clear B1
                  have B3 := hL.get (P := pBlk v3.heap.size #[.int .i64 (ia.kind : Nat), .bool ia.neg, .slice A3 n3 c3, .int .i64 ia.k, .int .i64 ia.big, .bool ia.cut] 27) (by repeat (first | exact List.mem_cons_self | apply List.mem_cons_of_mem)); have g30 := B3.cell 0 _ rfl; have g31 := B3.cell 1 _ rfl; have g32 := B3.cell 2 _ rfl; have g33 := B3.cell 3 _ rfl; have g34 := B3.cell 4 _ rfl; have g35 := B3.cell 5 _ rfl; clear B3
                  go_wp2_with fail; refine (same_any (it := ia) _ ⟨_, rfl, hL.get (P := pT (.slice A1 n1 c1) 2000 ia.d) (by repeat (first | exact List.mem_cons_self | apply List.mem_cons_of_mem))⟩ ⟨_, rfl, hL.get (P := pT (.slice A3 n3 c3) 2000 ia.d) (by repeat (first | exact List.mem_cons_self | apply List.mem_cons_of_mem))⟩).mono ?_; rintro e wz ⟨rfl, hb⟩; replace hL := hL.go hb; clear hb
                  clear g10 g11 g12 g13 g14 g15 g30 g31 g32 g33 g34 g35
                  have B4 := hL.get (P := pBlk v4.heap.size #[.int .i64 (ja.kind : Nat), .bool ja.neg, .slice A4 n4 c4, .int .i64 ja.k, .int .i64 ja.big, .bool ja.cut] 27) (by repeat (first | exact List.mem_cons_self | apply List.mem_cons_of_mem)); have g40 := B4.cell 0 _ rfl; have g41 := B4.cell 1 _ rfl; have g42 := B4.cell 2 _ rfl; have g43 := B4.cell 3 _ rfl; have g44 := B4.cell 4 _ rfl; have g45 := B4.cell 5 _ rfl; clear B4
                  have B5 := hL.get (P := pBlk v5.heap.size #[.int .i64 (ja.kind : Nat), .bool ja.neg, .slice A5 n5 c5, .int .i64 ja.k, .int .i64 ja.big, .bool ja.cut] 27) (by repeat (first | exact List.mem_cons_self | apply List.mem_cons_of_mem)); have g50 := B5.cell 0 _ rfl; have g51 := B5.cell 1 _ rfl; have g52 := B5.cell 2 _ rfl; have g53 := B5.cell 3 _ rfl; have g54 := B5.cell 4 _ rfl; have g55 := B5.cell 5 _ rfl; clear B5
                  go_wp2_with fail; refine (same_any (it := ja) _ ⟨_, rfl, hL.get (P := pT (.slice A4 n4 c4) 2000 ja.d) (by repeat (first | exact List.mem_cons_self | apply List.mem_cons_of_mem))⟩ ⟨_, rfl, hL.get (P := pT (.slice A5 n5 c5) 2000 ja.d) (by repeat (first | exact List.mem_cons_self | apply List.mem_cons_of_mem))⟩).mono ?_; rintro e wz ⟨rfl, hb⟩; replace hL := hL.go hb; clear hb
                  clear g40 g41 g42 g43 g44 g45 g50 g51 g52 g53 g54 g55
                  go_wp2
                  go_ret
                  exact ⟨rfl, hL.below⟩
                · have hlt : (i3 : Int) < (z : Int) := by omega
                  have hstep := zeroT_step i3
                  have hr3 : (List.replicate i3 (48 : UInt8)).length ≤ 15 := by rw [List.length_replicate]; omega
                  have hs3 := strL_size (List.replicate i3 48)
                  go_wp2
                  go_roundg (gk - 1)
                  case measure => omega
                  case rel => exact ⟨i3 + 1, by go_num, by omega, by first | rfl | rw [hstep], rfl⟩
          · obtain ⟨i, rfl⟩ : ∃ i, i = i2 := ⟨_, rfl⟩
            have hi1 : (i : Int) < (k2 : Int) := by omega
            have hi2 : (i : Int) < 60 := by omega
            have hsz := strL_size (digS S1 l2 i)
            have hdl : (digS S1 l2 i).length ≤ 300 := Nat.le_trans (digS_len S1 l2 i) (by first | omega | (simp; omega))
            obtain ⟨x, hx⟩ : ∃ x, l2.getD i 0 = x := ⟨_, rfl⟩
            obtain ⟨b, off, hA, hbb⟩ := hr2.place.resolve_left (fun e => by rw [e] at hk2; simp at hk2; omega)
            subst hA
            have hcell := (hLi.get (P := pR (some ⟨b, off, none⟩) l2) (by repeat (first | exact List.mem_cons_self | apply List.mem_cons_of_mem))).cells b off rfl i (by omega)
            rw [hx] at hcell
            have hstep := digS_step S1 l2 i (by omega)
            rw [hx] at hstep
            obtain ⟨ch, hch⟩ : ∃ ch, UInt8.ofNat (48 + x.toNat % 10) = ch := ⟨_, rfl⟩
            have hcv : ch.toNat = 48 + x.toNat % 10 := by rw [← hch, UInt8.toNat_ofNat']; omega
            rw [hch] at hstep
            obtain ⟨xi, hxi⟩ : ∃ xi : Int, ((x.toNat : Nat) : Int) = xi := ⟨_, rfl⟩
            have hxb : 0 ≤ xi ∧ xi ≤ 255 := by have := x.toNat_lt; omega
            obtain ⟨y, hy, hy9⟩ : ∃ y : Nat, xi % 10 = (y : Int) ∧ y ≤ 9 := ⟨(xi % 10).toNat, by omega, by omega⟩
            have hyc : (48 : Int) + (y : Int) = (ch.toNat : Int) := by omega
            have hcb : ch.toNat ≤ 57 := by omega
            rw [hxi] at hcell
            have hsc : (strL [ch]).size = 1 := strL_size [ch]
            have hcvt := fun W g h => conv_one W g ch h
            have hbr2 := fun o => hbr.alloc hbr.size o
            replace hch := Lib.hid hch
            replace hx := Lib.hid hx
            replace hcv := Lib.hid hcv
            obtain ⟨hxb0, hxb1⟩ := hxb
            go_wp2
            go_roundg (gk - 1)
            case measure => omega
            case rel => exact ⟨i + 1, by go_num, by omega, by first | rfl | rw [hstep], hbr2 _⟩
    · have hi1 : (i : Int) < (k1 : Int) := by omega
      have hi2 : (i : Int) < 60 := by omega
      have hsz := strL_size (digS [] l1 i)
      have hdl : (digS [] l1 i).length ≤ 300 := Nat.le_trans (digS_len [] l1 i) (by first | omega | (simp; omega))
      obtain ⟨x, hx⟩ : ∃ x, l1.getD i 0 = x := ⟨_, rfl⟩
      obtain ⟨b, off, hA, hbb⟩ := hr1.place.resolve_left (fun e => by rw [e] at hk1; simp at hk1; omega)
      subst hA
      have hcell := (hLi.get (P := pR (some ⟨b, off, none⟩) l1) (by repeat (first | exact List.mem_cons_self | apply List.mem_cons_of_mem))).cells b off rfl i (by omega)
      rw [hx] at hcell
      have hstep := digS_step [] l1 i (by omega)
      rw [hx] at hstep
      obtain ⟨ch, hch⟩ : ∃ ch, UInt8.ofNat (48 + x.toNat % 10) = ch := ⟨_, rfl⟩
      have hcv : ch.toNat = 48 + x.toNat % 10 := by rw [← hch, UInt8.toNat_ofNat']; omega
      rw [hch] at hstep
      obtain ⟨xi, hxi⟩ : ∃ xi : Int, ((x.toNat : Nat) : Int) = xi := ⟨_, rfl⟩
      have hxb : 0 ≤ xi ∧ xi ≤ 255 := by have := x.toNat_lt; omega
      obtain ⟨y, hy, hy9⟩ : ∃ y : Nat, xi % 10 = (y : Int) ∧ y ≤ 9 := ⟨(xi % 10).toNat, by omega, by omega⟩
      have hyc : (48 : Int) + (y : Int) = (ch.toNat : Int) := by omega
      have hcb : ch.toNat ≤ 57 := by omega
      rw [hxi] at hcell
      have hsc : (strL [ch]).size = 1 := strL_size [ch]
      have hcvt := fun W g h => conv_one W g ch h
      have hbr2 := fun o => hbr.alloc hbr.size o
      replace hch := Lib.hid hch
      replace hx := Lib.hid hx
      replace hcv := Lib.hid hcv
      obtain ⟨hxb0, hxb1⟩ := hxb
      go_wp2
      go_roundg (gk - 1)
      case measure => omega
      case rel => exact ⟨i + 1, by go_num, by omega, by first | rfl | rw [hstep], hbr2 _⟩
end Go.Proofs.YtlpcfbilembilaaDoor
