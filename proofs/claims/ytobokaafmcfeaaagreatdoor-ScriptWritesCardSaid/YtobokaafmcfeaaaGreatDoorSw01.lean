/- What the statement wants beyond its base. Conditions: none. -/
import Derived.Test.YtobokaafmcfeaaaGreatDoorSw00
namespace Go.Proofs.YtobokaafmcfeaaaGreatDoor
open Go.RowKit Go.Cal
end Go.Proofs.YtobokaafmcfeaaaGreatDoor
namespace Go.Proofs.YtobokaafmcfeaaaGreatDoor
open Go.RowKit Go.Cal
set_option maxRecDepth 100000 in
set_option maxHeartbeats 2000000 in
theorem wr_clear {id : Int} {w : World} (h1 : 1 ≤ id) (h4 : id ≤ 4) (hW : VaW w) : Calls Tryz.prog 29 #[.int .i64 id, .int .i64 0, .int .u64 0, .int .u64 0, .string ⟨#[]⟩] w (TellsB w (wrB id 0 0 0)) := by
  have hft := Lib.hid fun (W : World) (hW : VaW W) => fits_y (p := 0) h1 h4 (Nat.pow_pos (by decide)) W hW
  have hof := Lib.hid (sof_yes id h1 h4 w hW)
  go_enter Tryz.func29, Tryz.ntmps29
  go_wp2_with fail
  refine hof.out.mono ?_
  rintro e w1 ⟨rfl, hb1⟩
  have pF := pBlk_made w1 #[.int .i64 (fK id), .int .i64 (fW id), .int .i64 (fM id), .int .i64 (fB id), .int .u64 (fT id), .int .u64 (fI id), .int .u64 (fN id)] 67
  have hB1 := hb1.trans (((Below.refl w1.heap.size w1).alloc (Nat.le_refl _) (.cells #[.int .i64 (fK id), .int .i64 (fW id), .int .i64 (fM id), .int .i64 (fB id), .int .u64 (fT id), .int .u64 (fI id), .int .u64 (fN id)] 67)).mono hb1.size)
  have cF := pF.cell 1 _ rfl
  have hFl := pF.lt
  clear hb1 hof
  clear cF hFl pF
  go_wp2_with fail
  refine (hft.out _ (hW.below hB1)).mono ?_
  rintro e w2 ⟨rfl, hb2⟩
  have hB2 := hB1.trans (hb2.mono hB1.size)
  go_wp2_with fail
  refine (hft.out _ (hW.below hB2)).mono ?_
  rintro e w3 ⟨rfl, hb3⟩
  have hB3 := hB2.trans (hb3.mono hB2.size)
  have ho := ownB_made (base := w.heap.size) (w := w3) 0 (.int .u8 0) rfl hB3.size
  go_wp2
  go_ret2
  exact ⟨_, 1, rfl, by simpa [wrB] using ho, hB3.trans (((Below.refl _ _).alloc (Nat.le_refl _) _).mono hB3.size)⟩
set_option maxRecDepth 100000 in
set_option maxHeartbeats 2000000 in
theorem wr_neg {id : Int} {w : World} (h1 : 1 ≤ id) (h4 : id ≤ 4) (hW : VaW w) : Calls Tryz.prog 29 #[.int .i64 id, .int .i64 3, .int .u64 0, .int .u64 0, .string ⟨#[]⟩] w (TellsB w (wrB id 3 0 0)) := by
  have hft := Lib.hid fun (W : World) (hW : VaW W) => fits_y (p := 0) h1 h4 (Nat.pow_pos (by decide)) W hW
  have hof := Lib.hid (sof_yes id h1 h4 w hW)
  go_enter Tryz.func29, Tryz.ntmps29
  go_wp2_with fail
  refine hof.out.mono ?_
  rintro e w1 ⟨rfl, hb1⟩
  have pF := pBlk_made w1 #[.int .i64 (fK id), .int .i64 (fW id), .int .i64 (fM id), .int .i64 (fB id), .int .u64 (fT id), .int .u64 (fI id), .int .u64 (fN id)] 67
  have hB1 := hb1.trans (((Below.refl w1.heap.size w1).alloc (Nat.le_refl _) (.cells #[.int .i64 (fK id), .int .i64 (fW id), .int .i64 (fM id), .int .i64 (fB id), .int .u64 (fT id), .int .u64 (fI id), .int .u64 (fN id)] 67)).mono hb1.size)
  have cF := pF.cell 1 _ rfl
  have hFl := pF.lt
  clear hb1 hof
  clear cF hFl pF
  go_wp2_with fail
  refine (hft.out _ (hW.below hB1)).mono ?_
  rintro e w2 ⟨rfl, hb2⟩
  have hB2 := hB1.trans (hb2.mono hB1.size)
  go_wp2_with fail
  refine (hft.out _ (hW.below hB2)).mono ?_
  rintro e w3 ⟨rfl, hb3⟩
  have hB3 := hB2.trans (hb3.mono hB2.size)
  have ho := ownB_made (base := w.heap.size) (w := w3) 3 (.int .u8 3) rfl hB3.size
  go_wp2
  go_ret2
  exact ⟨_, 1, rfl, by simpa [wrB] using ho, hB3.trans (((Below.refl _ _).alloc (Nat.le_refl _) _).mono hB3.size)⟩
set_option maxRecDepth 100000 in
set_option maxHeartbeats 2000000 in
theorem wr_out {id : Int} {w : World} (h1 : 1 ≤ id) (h4 : id ≤ 4) (hW : VaW w) : Calls Tryz.prog 29 #[.int .i64 id, .int .i64 4, .int .u64 0, .int .u64 0, .string ⟨#[]⟩] w (TellsB w (wrB id 4 0 0)) := by
  have hft := Lib.hid fun (W : World) (hW : VaW W) => fits_y (p := 0) h1 h4 (Nat.pow_pos (by decide)) W hW
  have hof := Lib.hid (sof_yes id h1 h4 w hW)
  go_enter Tryz.func29, Tryz.ntmps29
  go_wp2_with fail
  refine hof.out.mono ?_
  rintro e w1 ⟨rfl, hb1⟩
  have pF := pBlk_made w1 #[.int .i64 (fK id), .int .i64 (fW id), .int .i64 (fM id), .int .i64 (fB id), .int .u64 (fT id), .int .u64 (fI id), .int .u64 (fN id)] 67
  have hB1 := hb1.trans (((Below.refl w1.heap.size w1).alloc (Nat.le_refl _) (.cells #[.int .i64 (fK id), .int .i64 (fW id), .int .i64 (fM id), .int .i64 (fB id), .int .u64 (fT id), .int .u64 (fI id), .int .u64 (fN id)] 67)).mono hb1.size)
  have cF := pF.cell 1 _ rfl
  have hFl := pF.lt
  clear hb1 hof
  clear cF hFl pF
  go_wp2_with fail
  refine (hft.out _ (hW.below hB1)).mono ?_
  rintro e w2 ⟨rfl, hb2⟩
  have hB2 := hB1.trans (hb2.mono hB1.size)
  go_wp2_with fail
  refine (hft.out _ (hW.below hB2)).mono ?_
  rintro e w3 ⟨rfl, hb3⟩
  have hB3 := hB2.trans (hb3.mono hB2.size)
  have ho := ownB_made (base := w.heap.size) (w := w3) 4 (.int .u8 4) rfl hB3.size
  go_wp2
  go_ret2
  exact ⟨_, 1, rfl, by simpa [wrB] using ho, hB3.trans (((Below.refl _ _).alloc (Nat.le_refl _) _).mono hB3.size)⟩
set_option maxRecDepth 100000 in
set_option maxHeartbeats 4000000 in
theorem wr_sub {id : Int} {w : World} {x y : Nat} (h1 : 1 ≤ id) (h4 : id ≤ 4) (hW : VaW w) (hx : x < 256 ^ ((fW id).toNat / 8)) (hy : y < 256 ^ ((fW id).toNat / 8)) : Calls Tryz.prog 29 #[.int .i64 id, .int .i64 2, .int .u64 (x : Nat), .int .u64 (y : Nat), .string ⟨#[]⟩] w (TellsB w (wrB id 2 x y)) := by
  have hftx := Lib.hid fun (W : World) (hW : VaW W) => fits_y h1 h4 hx W hW
  have hfty := Lib.hid fun (W : World) (hW : VaW W) => fits_y h1 h4 hy W hW
  have hof := Lib.hid (sof_yes id h1 h4 w hW)
  go_enter Tryz.func29, Tryz.ntmps29
  go_wp2_with fail
  refine hof.out.mono ?_
  rintro e w1 ⟨rfl, hb1⟩
  have pF := pBlk_made w1 #[.int .i64 (fK id), .int .i64 (fW id), .int .i64 (fM id), .int .i64 (fB id), .int .u64 (fT id), .int .u64 (fI id), .int .u64 (fN id)] 67
  have hB1 := hb1.trans (((Below.refl w1.heap.size w1).alloc (Nat.le_refl _) (.cells #[.int .i64 (fK id), .int .i64 (fW id), .int .i64 (fM id), .int .i64 (fB id), .int .u64 (fT id), .int .u64 (fI id), .int .u64 (fN id)] 67)).mono hb1.size)
  have cF := pF.cell 1 _ rfl
  have hFl := pF.lt
  clear hb1 hof
  go_wp2_with fail
  refine (hftx.out _ (hW.below hB1)).mono ?_
  rintro e w2 ⟨rfl, hb2⟩
  have hB2 := hB1.trans (hb2.mono hB1.size)
  go_wp2_with fail
  refine (hfty.out _ (hW.below hB2)).mono ?_
  rintro e w3 ⟨rfl, hb3⟩
  have hB3 := hB2.trans (hb3.mono hB2.size)
  have ho := ownB_made (base := w.heap.size) (w := w3) 2 (.int .u8 2) rfl hB3.size
  have hal4 := (((Below.refl w3.heap.size w3).alloc (Nat.le_refl _) (.cells #[.int .u8 2] 5))).alloc (by simp) (.cells #[.int .u64 (x : Nat), .int .u64 (y : Nat)] 22)
  have hB4 := hB3.trans (hal4.mono hB3.size)
  have ho4 := ho.alloc (.cells #[.int .u64 (x : Nat), .int .u64 (y : Nat)] 22)
  have pXY := pBlk_madeR (w3.alloc (.cells #[.int .u8 2] 5)) #[.int .u64 (x : Nat), .int .u64 (y : Nat)] 22 (w3.heap.size + 1) (by simp)
  have pF4 := pBlk_st _ _ _ _ _ (pBlk_st _ _ _ _ _ (pBlk_st _ _ _ _ _ pF hb2) hb3) hal4
  have hp8 := posit_bytes h1 h4
  obtain ⟨w1', w2', w3', w4', w5', -⟩ := fo_wide h1 (show id < 15 by omega)
  have hk8 : (fW id).toNat / 8 ≤ 8 := by obtain ⟨-, -, -, -, s5⟩ := quS_bnd h1 h4; omega
  obtain ⟨k, hk⟩ : ∃ k, (fW id).toNat / 8 = k := ⟨_, rfl⟩
  have hfw : fW id = 8 * (k : Int) := by omega
  have hend : Hid (wrB id 2 x y = [2] ++ beB k x ++ beB k y) := by
    show _ = _
    unfold wrB
    rw [if_pos (by decide), hk]
    rfl
  rw [hk] at hk8 hx hy
  rw [hfw] at pF4
  have hx64 : x < 18446744073709551616 := Nat.lt_of_lt_of_le hx (Nat.le_trans (Nat.pow_le_pow_right (by decide) hk8) (by decide))
  have hy64 : y < 18446744073709551616 := Nat.lt_of_lt_of_le hy (Nat.le_trans (Nat.pow_le_pow_right (by decide) hk8) (by decide))
  have hFl3 := Nat.lt_of_lt_of_le hFl hb2.size
  have hb3s := hb3.size
  clear hk hp8 w1' w2' w3' w4' w5' hx hy hftx hfty cF hFl pF hb2 hb3 hB1 hB2 hal4 ho hW h1 h4 hfw hB3
  go_wp2_with fail
  obtain ⟨W4, hW4⟩ : ∃ W4, (w3.alloc (.cells #[.int .u8 2] 5)).alloc (.cells #[.int .u64 (x : Nat), .int .u64 (y : Nat)] 22) = W4 := ⟨_, rfl⟩
  rw [hW4] at hB4 ho4 pXY pF4 ⊢
  clear hW4
  have hsF : w1.heap.size < w3.heap.size := Nat.lt_of_lt_of_le hFl3 hb3s
  obtain ⟨sX, hsX⟩ : ∃ s, w3.heap.size + 1 = s := ⟨_, rfl⟩
  obtain ⟨sF, hsFe⟩ : ∃ s, w1.heap.size = s := ⟨_, rfl⟩
  have hpl4 : ∀ b, (Value.slice (some ⟨w3.heap.size, 0, none⟩) 1 1).ownBlock = some b → b ≠ sX ∧ b ≠ sF := fun b hb => by
    simp [Value.ownBlock] at hb
    omega
  rw [hsX] at pXY ⊢
  rw [hsFe] at pF4 ⊢
  clear hsX hsFe hsF
  refine wp_loop_rounds 3 ?_
  rw [rounds_succ]
  have c0 := pXY.cell 0 _ rfl
  have cF := pF4.cell 1 _ rfl
  have hXl := pXY.lt
  have hFl := pF4.lt
  have hwr8 : IntKind.i64.wrap (8 * (k : Int) - 8) = 8 * (k : Int) - 8 := by rw [IntKind.wrap_i64]; omega
  go_wp2_with fail
  go_loopg [15, 18] k (fun m pb pi wr => ∃ (j : Nat) (A' : Option Addr) (n' c' : Nat), pb = .slice A' n' c' ∧ pi = .int .i64 (8 * (k : Int) - 8 - 8 * (j : Int)) ∧ j + m = k ∧ wr.ownsRow w.heap.size 5 1 (.slice A' n' c') (1 + j) (lBv (([2] : List UInt8) ++ (beB k x).take j)) ∧ Below w.heap.size w wr ∧ pBlk sX #[.int .u64 (x : Nat), .int .u64 (y : Nat)] 22 wr ∧ pBlk sF #[.int .i64 (fK id), .int .i64 (8 * (k : Int)), .int .i64 (fM id), .int .i64 (fB id), .int .u64 (fT id), .int .u64 (fI id), .int .u64 (fN id)] 67 wr ∧ ∀ b, (Value.slice A' n' c').ownBlock = some b → b ≠ sX ∧ b ≠ sF)
  case atStart => exact ⟨0, _, _, _, rfl, by simp, by omega, by simpa using ho4, hB4, pXY, pF4, hpl4⟩
  case round =>
    clear pXY pF4 ho4 hB4 hpl4 c0 cF hXl hFl
    obtain ⟨j, A', n', c', rfl, rfl, hjm, hob, hBr, pX, pFr, hpl⟩ := hrel
    by_cases hjk : j < k
    · obtain ⟨t, ht⟩ : ∃ t : Nat, k - 1 - j = t := ⟨_, rfl⟩
      have hz : 8 * (k : Int) - 8 - 8 * (j : Int) = ((8 * t : Nat) : Int) := by omega
      rw [hz]
      have hnn : (0 : Int) ≤ ((8 * t : Nat) : Int) := by omega
      have hcv := byte_val x t
      have hbe := be_app (l := ([2] : List UInt8)) (x := x) hjk
      rw [ht] at hbe
      obtain ⟨c, hc⟩ : ∃ c, UInt8.ofNat (x / 256 ^ t % 256) = c := ⟨_, rfl⟩
      rw [hc] at hcv hbe
      have hal := (Below.refl wr.heap.size wr).alloc (Nat.le_refl _) (.cells #[.int .u8 (c.toNat : Nat)] 5)
      have hBa := hBr.trans (hal.mono hBr.size)
      have pXa := pBlk_st _ _ _ _ _ pX hal
      have pFa := pBlk_st _ _ _ _ _ pFr hal
      have hca := (pBlk_made wr #[.int .u8 (c.toNat : Nat)] 5).cell 0 _ rfl
      have hoa := hob.alloc (.cells #[.int .u8 (c.toNat : Nat)] 5)
      have hwt : IntKind.i64.wrap (((8 * t : Nat) : Int) - 8) = ((8 * t : Nat) : Int) - 8 := by rw [IntKind.wrap_i64]; omega
      replace hbe := Lib.hid hbe
      clear hc
      go_wp2_with (at_builtin; refine wpList_app1 rfl _ _ rfl rfl rfl hoa hca (by omega) hBa.size ?_; intro A2 n2 c2 w' ho' hg' hp')
      have hBw := hBa.trans (below_grownO hg' (fun b hb => (hoa.lt b hb).1) hBa.size)
      have pXw := blk_grownO pXa hg' (fun e => (hpl _ e).1 rfl)
      have pFw := blk_grownO pFa hg' (fun e => (hpl _ e).2 rfl)
      rw [hbe.out] at ho'
      have hpw : ∀ b, (Value.slice A2 n2 c2).ownBlock = some b → b ≠ sX ∧ b ≠ sF := fun b hb => by
        rcases hp' with hp' | hp'
        · rw [hp'] at hb; exact hpl b hb
        · have h9 := hp' b hb
          have l1 := pXa.lt
          have l2 := pFa.lt
          omega
      clear hg' hp' hoa hca hal hBa pXa pFa hbe
      go_roundg (gk - 1)
      case measure => omega
      case rel => exact ⟨j + 1, A2, n2, c2, rfl, by simp; omega, by omega, by rw [show 1 + (j + 1) = 1 + j + 1 by omega]; exact ho', hBw, pXw, pFw, hpw⟩
    · have hjk0 : k = j := by omega
      subst hjk0
      have hz : 8 * (k : Int) - 8 - 8 * (k : Int) = -8 := by omega
      rw [hz]
      have hobk : wr.ownsRow w.heap.size 5 1 (.slice A' n' c') (1 + k) (lBv (([2] : List UInt8) ++ beB k x)) := by rw [List.take_of_length_le (by rw [beB_len]; omega)] at hob; exact hob
      have cX0 := pX.cell 0 _ rfl
      have cX1 := pX.cell 1 _ rfl
      have cFr := pFr.cell 1 _ rfl
      have hXl := pX.lt
      have hFl := pFr.lt
      clear hob hjk hz
      go_wp2_with fail
      rw [rounds_succ]
      go_wp2_with fail
      have c0 := pX.cell 1 _ rfl
      have cF := pFr.cell 1 _ rfl
      have hXl := pX.lt
      have hFl := pFr.lt
      have hwr8 : IntKind.i64.wrap (8 * (k : Int) - 8) = 8 * (k : Int) - 8 := by rw [IntKind.wrap_i64]; omega
      go_wp2_with fail
      go_loopg [15, 18] k (fun m pb pi wr => ∃ (j : Nat) (A' : Option Addr) (n' c' : Nat), pb = .slice A' n' c' ∧ pi = .int .i64 (8 * (k : Int) - 8 - 8 * (j : Int)) ∧ j + m = k ∧ wr.ownsRow w.heap.size 5 1 (.slice A' n' c') ((1 + k) + j) (lBv ((([2] : List UInt8) ++ beB k x) ++ (beB k y).take j)) ∧ Below w.heap.size w wr ∧ pBlk sX #[.int .u64 (x : Nat), .int .u64 (y : Nat)] 22 wr ∧ pBlk sF #[.int .i64 (fK id), .int .i64 (8 * (k : Int)), .int .i64 (fM id), .int .i64 (fB id), .int .u64 (fT id), .int .u64 (fI id), .int .u64 (fN id)] 67 wr ∧ ∀ b, (Value.slice A' n' c').ownBlock = some b → b ≠ sX ∧ b ≠ sF)
      case atStart => exact ⟨0, _, _, _, rfl, by simp, by omega, by simpa using hobk, hBr, pX, pFr, hpl⟩
      case round =>
        clear pX pFr hobk hBr hpl c0 cF hXl hFl
        obtain ⟨j, A', n', c', rfl, rfl, hjm, hob, hBr, pX, pFr, hpl⟩ := hrel
        by_cases hjk : j < k
        · obtain ⟨t, ht⟩ : ∃ t : Nat, k - 1 - j = t := ⟨_, rfl⟩
          have hz : 8 * (k : Int) - 8 - 8 * (j : Int) = ((8 * t : Nat) : Int) := by omega
          rw [hz]
          have hnn : (0 : Int) ≤ ((8 * t : Nat) : Int) := by omega
          have hcv := byte_val y t
          have hbe := be_app (l := (([2] : List UInt8) ++ beB k x)) (x := y) hjk
          rw [ht] at hbe
          obtain ⟨c, hc⟩ : ∃ c, UInt8.ofNat (y / 256 ^ t % 256) = c := ⟨_, rfl⟩
          rw [hc] at hcv hbe
          have hal := (Below.refl wr.heap.size wr).alloc (Nat.le_refl _) (.cells #[.int .u8 (c.toNat : Nat)] 5)
          have hBa := hBr.trans (hal.mono hBr.size)
          have pXa := pBlk_st _ _ _ _ _ pX hal
          have pFa := pBlk_st _ _ _ _ _ pFr hal
          have hca := (pBlk_made wr #[.int .u8 (c.toNat : Nat)] 5).cell 0 _ rfl
          have hoa := hob.alloc (.cells #[.int .u8 (c.toNat : Nat)] 5)
          have hwt : IntKind.i64.wrap (((8 * t : Nat) : Int) - 8) = ((8 * t : Nat) : Int) - 8 := by rw [IntKind.wrap_i64]; omega
          replace hbe := Lib.hid hbe
          clear hc
          go_wp2_with (at_builtin; refine wpList_app1 rfl _ _ rfl rfl rfl hoa hca (by omega) hBa.size ?_; intro A2 n2 c2 w' ho' hg' hp')
          have hBw := hBa.trans (below_grownO hg' (fun b hb => (hoa.lt b hb).1) hBa.size)
          have pXw := blk_grownO pXa hg' (fun e => (hpl _ e).1 rfl)
          have pFw := blk_grownO pFa hg' (fun e => (hpl _ e).2 rfl)
          rw [hbe.out] at ho'
          have hpw : ∀ b, (Value.slice A2 n2 c2).ownBlock = some b → b ≠ sX ∧ b ≠ sF := fun b hb => by
            rcases hp' with hp' | hp'
            · rw [hp'] at hb; exact hpl b hb
            · have h9 := hp' b hb
              have l1 := pXa.lt
              have l2 := pFa.lt
              omega
          clear hg' hp' hoa hca hal hBa pXa pFa hbe
          go_roundg (gk - 1)
          case measure => omega
          case rel => exact ⟨j + 1, A2, n2, c2, rfl, by simp; omega, by omega, by rw [show (1 + k) + (j + 1) = (1 + k) + j + 1 by omega]; exact ho', hBw, pXw, pFw, hpw⟩
        · have hjk0 : k = j := by omega
          subst hjk0
          have hz : 8 * (k : Int) - 8 - 8 * (k : Int) = -8 := by omega
          rw [hz]
          have hobk : wr.ownsRow w.heap.size 5 1 (.slice A' n' c') ((1 + k) + k) (lBv ((([2] : List UInt8) ++ beB k x) ++ beB k y)) := by rw [List.take_of_length_le (by rw [beB_len]; omega)] at hob; exact hob
          have cX0 := pX.cell 0 _ rfl
          have cX1 := pX.cell 1 _ rfl
          have cFr := pFr.cell 1 _ rfl
          have hXl := pX.lt
          have hFl := pFr.lt
          clear hob hjk hz
          go_wp2_with fail
          rw [rounds_succ]
          go_wp2_with fail
          have hl : (wrB id 2 x y).length = 1 + k + k := by rw [hend.out]; simp [beB_len]; omega
          have hn9 : n' = 1 + k + k := by
            obtain ⟨A9, c9, e9, -⟩ := read_ownB hobk (by simp [beB_len]; omega)
            injection e9 with _ e2 _
            rw [e2]
            simp [beB_len]
            omega
          subst hn9
          go_ret2
          exact ⟨A', c', by rw [hl]; rfl, by rw [hl, hend.out]; exact hobk, hBr⟩
end Go.Proofs.YtobokaafmcfeaaaGreatDoor
