/- The theorem TopQuire, walked. Conditions: the variables that values and words read. -/
import Derived.Test.YtehpneojiinmdaaGreatDoorTu23
import Derived.Test.YtehpneojiinmdaaGreatDoorTu26
namespace Go.Proofs.YtehpneojiinmdaaGreatDoor
open Go.RowKit Go.Cal
/-- A slice of uint16 that was handed in. -/
def ArgH (w : World) (v : Value) : Prop := ∃ A n c, v = .slice A n c ∧ n ≤ c ∧ c ≤ maxLen ∧ ∀ i, i < n → ∃ b off x, A = some ⟨b, off, none⟩ ∧ b < w.heap.size ∧ w.cell? ⟨b, off + i, none⟩ = some (.int .u16 (x : Nat)) ∧ x < 65536
section
variable {w W W' : World} {va vb ma mb : Nat} {ca cb ea eb : Int} {na nb : Bool} {L : List (World → Prop)}
theorem boxT (hL : LiveP w W (pBlk vb #[.int .i64 cb, .bool nb, .int .u64 (mb : Nat), .int .i64 eb] 31 :: pBlk va #[.int .i64 ca, .bool na, .int .u64 (ma : Nat), .int .i64 ea] 31 :: L)) : (LiveP w W (pBlk vb #[.int .i64 cb, .bool nb, .int .u64 (mb : Nat), .int .i64 eb] 31 :: pBlk va #[.int .i64 ca, .bool na, .int .u64 (ma : Nat), .int .i64 ea] 31 :: L) ∧ va < (W).heap.size ∧ vb < (W).heap.size ∧ (W).cell? ⟨va, 2, none⟩ = some (.int .u64 (ma : Nat)) ∧ (W).cell? ⟨va, 3, none⟩ = some (.int .i64 ea) ∧ (W).cell? ⟨vb, 2, none⟩ = some (.int .u64 (mb : Nat)) ∧ (W).cell? ⟨vb, 3, none⟩ = some (.int .i64 eb)) := by
  have pa := hL.get (P := pBlk va #[.int .i64 ca, .bool na, .int .u64 (ma : Nat), .int .i64 ea] 31) (by repeat (first | exact List.mem_cons_self | apply List.mem_cons_of_mem))
  have pb := hL.get (P := pBlk vb #[.int .i64 cb, .bool nb, .int .u64 (mb : Nat), .int .i64 eb] 31) (by repeat (first | exact List.mem_cons_self | apply List.mem_cons_of_mem))
  exact ⟨hL, pa.lt, pb.lt, pa.cell 2 _ rfl, pa.cell 3 _ rfl, pb.cell 2 _ rfl, pb.cell 3 _ rfl⟩
theorem keepT (hS : (LiveP w W (pBlk vb #[.int .i64 cb, .bool nb, .int .u64 (mb : Nat), .int .i64 eb] 31 :: pBlk va #[.int .i64 ca, .bool na, .int .u64 (ma : Nat), .int .i64 ea] 31 :: L) ∧ va < (W).heap.size ∧ vb < (W).heap.size ∧ (W).cell? ⟨va, 2, none⟩ = some (.int .u64 (ma : Nat)) ∧ (W).cell? ⟨va, 3, none⟩ = some (.int .i64 ea) ∧ (W).cell? ⟨vb, 2, none⟩ = some (.int .u64 (mb : Nat)) ∧ (W).cell? ⟨vb, 3, none⟩ = some (.int .i64 eb))) (hb : Below W.heap.size W W') : (LiveP w W' (pBlk vb #[.int .i64 cb, .bool nb, .int .u64 (mb : Nat), .int .i64 eb] 31 :: pBlk va #[.int .i64 ca, .bool na, .int .u64 (ma : Nat), .int .i64 ea] 31 :: L) ∧ va < (W').heap.size ∧ vb < (W').heap.size ∧ (W').cell? ⟨va, 2, none⟩ = some (.int .u64 (ma : Nat)) ∧ (W').cell? ⟨va, 3, none⟩ = some (.int .i64 ea) ∧ (W').cell? ⟨vb, 2, none⟩ = some (.int .u64 (mb : Nat)) ∧ (W').cell? ⟨vb, 3, none⟩ = some (.int .i64 eb)) := boxT (hS.1.go hb)
end
theorem QuS.mutX {g x : Nat} {id : Int} {N : Nat} {w w' : World} (h : QuS g id N w) (hm : Mut x w w') (hne : g ≠ x) : QuS g id N w' := by
  obtain ⟨A, n, c, hp, hv⟩ := h
  exact ⟨A, n, c, hp.mut hm hne, hv.mut hm⟩
theorem QuS_st (g : Nat) (id : Int) (N : Nat) : Stable (QuS g id N) := fun _ _ h hb => h.below hb
theorem and_u16 (x : Nat) (hx : x < 65536) : bits .and .u16 (x : Int) 255 = ((x % 256 : Nat) : Int) := by
  have h1 : (BitVec.ofInt 16 (255 : Int)).toNat = 2 ^ 8 - 1 := by decide
  show IntKind.u16.wrap ((BitVec.ofInt 16 (x : Int) &&& BitVec.ofInt 16 255).toNat : Nat) = _
  have h2 : (BitVec.ofInt 16 (x : Int)).toNat = x := by simp; omega
  rw [BitVec.toNat_and, h1, h2, Nat.and_two_pow_sub_one_eq_mod]
  simp [IntKind.wrap, IntKind.bits, IntKind.signed]
  omega
theorem posit_class (id p : Int) (h : fK id = 1) : classV id p = 1 ∨ classV id p = 2 ∨ classV id p = 4 := by
  unfold classV
  rw [h]
  repeat' split
  all_goals simp_all
theorem encQ_in {U D i : Nat} (_ : (1 : Int) ≤ 4) (hi : i < 60) (hU : U ≤ i * 2 ^ (quS 1 - 32)) (hD : D ≤ i * 2 ^ (quS 1 - 32)) : encQ 1 U D < 2 ^ quS 1 := by
  have hs := quS_bnd (id := 1) (by decide) (by decide)
  obtain ⟨X, hX⟩ : ∃ X, 2 ^ (quS 1 - 32) = X := ⟨_, rfl⟩
  have h3 : 2 ^ quS 1 = 4294967296 * X := by
    rw [← hX, show quS 1 = 32 + (quS 1 - 32) by omega, Nat.pow_add, show 32 + (quS 1 - 32) - 32 = quS 1 - 32 by omega]
  have hX0 : 0 < X := hX ▸ Nat.two_pow_pos _
  rw [hX] at hU hD
  have hU' : U ≤ 60 * X := Nat.le_trans hU (Nat.mul_le_mul_right _ (by omega))
  have hD' : D ≤ 60 * X := Nat.le_trans hD (Nat.mul_le_mul_right _ (by omega))
  exact encQ_lt (by omega) (by omega)
theorem more60 {U i S : Nat} (h : Hid (U ≤ i * S)) : Hid (U ≤ (i + 1) * S) := Nat.le_trans h (Nat.mul_le_mul_right _ (by omega))
theorem more_fit {U i Z : Nat} (hU : U ≤ i * 2 ^ (quS 1 - 32)) (hi : i < 60) (hZ : Z ≤ 2 ^ (quS 1 - 32)) : U + Z ≤ (i + 1) * 2 ^ (quS 1 - 32) ∧ U + Z < 18446744073709551616 ^ 20 := by
  have h1 : U + Z ≤ (i + 1) * 2 ^ (quS 1 - 32) := by rw [Nat.succ_mul]; omega
  refine ⟨h1, Nat.lt_of_le_of_lt (Nat.le_trans h1 (Nat.mul_le_mul_right _ (show i + 1 ≤ 60 by omega))) ?_⟩
  rw [show quS 1 - 32 = 96 by decide +kernel]
  decide +kernel
set_option maxRecDepth 100000 in
set_option maxHeartbeats 8000000 in
theorem topQuire_walk (A : Option Addr) (n c : Nat) (w : World) (hW : PrW w) (_hn : n ≤ c) (_hc : c ≤ maxLen) (hl : ∀ i, i < n → ∃ b off x, A = some ⟨b, off, none⟩ ∧ b < w.heap.size ∧ w.cell? ⟨b, off + i, none⟩ = some (.int .u16 (x : Nat)) ∧ x < 65536) :
    Calls Tryz.prog 4 #[.slice A n c] w fun e w' => e = .returned (.bool true) ∧ Below w.heap.size w w' := by
  have hwk := Lib.hid fun w (hW : PrW w) => works_any w hW
  have hnw := Lib.hid fun w (hW : VaW w) => new_q 1 (by decide) (by decide) w hW
  have hL0 := LiveP.start w
  go_enter Tryz.func4, Tryz.ntmps4
  go_wp2_with fail
  refine (hwk.out _ hW).mono ?_
  rintro ex w1 ⟨rfl, hb1⟩
  go_wp2_with fail
  refine (hnw.out _ (hW.below hb1).va).mono ?_
  rintro ex w2 ⟨g, rfl, hg, hq, hb2⟩
  have hB2 := hb1.trans (hb2.mono hb1.size)
  have hgw : w.heap.size ≤ g := Nat.le_trans hb1.size hg
  go_wp2_with fail
  refine (of_t w2 0 (by decide)).mono ?_
  rintro ex w3 ⟨v3, rfl, hv3, hb3⟩
  go_wp2_with fail
  refine (of_t w3 0 (by decide)).mono ?_
  rintro ex w4 ⟨v4, rfl, hv4, hb4⟩
  have hq4 := (hq.below hb3).below hb4
  have hv34 := IsT.below hv3 hb4
  have hB4 := (hB2.trans (hb3.mono hB2.size)).trans (hb4.mono (Nat.le_trans hB2.size hb3.size))
  go_wp2_with fail
  obtain ⟨hs1, hs2⟩ := quS1
  have hE0 : encQ 1 0 0 = 0 := by decide +kernel
  rw [← hE0] at hq4
  go_loopg [6, 7, 8] 61 (fun k p6 p7 p8 wr => ∃ i U D : Nat, p8 = .int .i64 (i : Nat) ∧ i + k = 61 ∧ i ≤ 60 ∧ i ≤ n ∧ IsT wr p6 20 U ∧ IsT wr p7 20 D ∧ Hid (U ≤ i * 2 ^ (quS 1 - 32)) ∧ Hid (D ≤ i * 2 ^ (quS 1 - 32)) ∧ QuS g 1 (encQ 1 U D) wr ∧ Below w.heap.size w wr)
  case atStart => exact ⟨0, 0, 0, rfl, rfl, by decide, Nat.zero_le _, (IsT.up hv34 (by decide)), (IsT.up hv4 (by decide)), Lib.hid (by simp), Lib.hid (by simp), hq4, hB4⟩
  case round =>
    clear hq hq4 hv3 hv4 hv34 hb1 hb2 hb3 hb4 hB2 hB4
    obtain ⟨i, U, D, rfl, hk, hi60, hin, hu, hd, hU, hD, hq, hB⟩ := hrel
    by_cases hgo : i < n ∧ i < 60
    · obtain ⟨hi1, hi2⟩ := hgo
      obtain ⟨b0, off, x, rfl, hb0, hx, hx6⟩ := hl i hi1
      have hxr := (hB.cell (p := ⟨b0, off + i, none⟩) hb0).trans hx
      have hb0r : b0 < wr.heap.size := Nat.lt_of_lt_of_le hb0 hB.size
      have hi1' : (i : Int) < (n : Int) := by omega
      have hi2' : (i : Int) < 60 := by omega
      obtain ⟨a, ha⟩ : ∃ a : Nat, x % 256 = a := ⟨_, rfl⟩
      obtain ⟨b, hb⟩ : ∃ b : Nat, x / 256 = b := ⟨_, rfl⟩
      have hand : bits .and .u16 (x : Int) 255 = (a : Int) := by rw [← ha]; exact and_u16 x hx6
      have hshr : (x : Int) / 256 = (b : Int) := by rw [← hb]; omega
      have ha8 : a < 256 := by omega
      have hb8 : b < 256 := by omega
      clear ha hb hx
      have fa : fitsV 1 (a : Int) = 0 := by unfold fitsV; rw [if_neg (by decide), show (fW 1).toNat = 8 from by decide, if_pos (show (a : Int) < 2 ^ (8 : Nat) by omega)]
      have fb : fitsV 1 (b : Int) = 0 := by unfold fitsV; rw [if_neg (by decide), show (fW 1).toNat = 8 from by decide, if_pos (show (b : Int) < 2 ^ (8 : Nat) by omega)]
      have hca := posit_class 1 (a : Int) rfl
      have hcb := posit_class 1 (b : Int) rfl
      have d1 := fun w (hW : VaW w) => vdec_yes 1 (a : Int) (by decide) (by decide) (by omega) (show (a : Int) < 2 ^ (8 : Nat) by omega) w hW
      have d2 := fun w (hW : VaW w) => vdec_yes 1 (b : Int) (by decide) (by decide) (by omega) (show (b : Int) < 2 ^ (8 : Nat) by omega) w hW
      have hadq := Lib.hid fun (W : World) (hq : QuS g 1 (encQ 1 U D) W) (hW : VaW W) => add_q (by decide) (by decide) (a : Int) (b : Int) (by omega) (by omega) (encQ_in (by decide) hi2 hU.out hD.out) hq hW
      have hE1 : quDoE 1 (a : Int) (b : Int) = 0 := by unfold quDoE; rw [if_neg (by simp [fa, fb])]
      rw [hE1] at hadq
      have hrd := fun h1 h2 => encQ_round (id := 1) (a := (a : Int)) (b := (b : Int)) (by decide) (by decide) fa fb (by omega) (by omega) hi2 hU.out hD.out h1 h2
      have hpb := fun h1 h2 => quPr_bnd (id := 1) (a := (a : Int)) (b := (b : Int)) (by decide) (by decide) fa fb (by omega) (by omega) h1 h2
      obtain ⟨Q, hQ⟩ : ∃ Q, quDo 1 (encQ 1 U D) (a : Int) (b : Int) false = Q := ⟨_, rfl⟩
      rw [hQ] at hadq hrd
      generalize classV 1 (a : Int) = ca at *
      generalize classV 1 (b : Int) = cb at *
      generalize decN 1 (a : Int) = na at *
      generalize decN 1 (b : Int) = nb at *
      generalize decM 1 (a : Int) = ma at *
      generalize decM 1 (b : Int) = mb at *
      generalize decE 1 (a : Int) = ea at *
      generalize decE 1 (b : Int) = eb at *
      replace d1 := Lib.hid d1
      replace d2 := Lib.hid d2
      have hLr := (((LiveP.start wr).put (QuS_st g 1 (encQ 1 U D)) hq).put (pT_st u6 20 U) hu).put (pT_st u7 20 D) hd
      have hgr : g < wr.heap.size := hq.lt
      have hVr := Lib.hid fun (W : World) (h : Below wr.heap.size wr W) => (hW.below (hB.trans (h.mono hB.size))).va
      have hwa : IntKind.u64.wrap (a : Int) = (a : Int) := by simp [IntKind.wrap, IntKind.bits, IntKind.signed]; omega
      clear hQ hE1 fa fb ha8 hb8
      rcases hca with rfl | rfl | rfl
      case inr.inr =>
        clear hrd hpb hadq
        rcases hcb with rfl | rfl | rfl
        case inl =>
          go_wp2_with fail
          refine (d1.out _ (hVr.out _ (Below.refl _ _))).mono ?_
          rintro ex w1 ⟨rfl, hb1⟩
          have hL1 := ((hLr.go hb1).go ((Below.refl _ _).alloc (Nat.le_refl _) (.cells #[.int .i64 4, .bool na, .int .u64 (ma : Nat), .int .i64 ea] 31))).put (pBlk_st _ _ _) (pBlk_made w1 #[.int .i64 4, .bool na, .int .u64 (ma : Nat), .int .i64 ea] 31)
          have hz1 := hb1.size
          clear hb1
          go_wp2_with fail
          refine (d2.out _ (hVr.out _ hL1.below)).mono ?_
          rintro ex w2 ⟨rfl, hb2⟩
          have hL2 := ((hL1.go hb2).go ((Below.refl _ _).alloc (Nat.le_refl _) (.cells #[.int .i64 1, .bool nb, .int .u64 (mb : Nat), .int .i64 eb] 31))).put (pBlk_st _ _ _) (pBlk_made w2 #[.int .i64 1, .bool nb, .int .u64 (mb : Nat), .int .i64 eb] 31)
          have hz2 := hb2.size
          clear hb2
          obtain ⟨a0, a1, a2, a3⟩ := cells4R (hL2.get (P := pBlk w1.heap.size #[.int .i64 4, .bool na, .int .u64 (ma : Nat), .int .i64 ea] 31) (by repeat (first | exact List.mem_cons_self | apply List.mem_cons_of_mem)))
          obtain ⟨b0', b1, b2, b3⟩ := cells4R (hL2.get (P := pBlk w2.heap.size #[.int .i64 1, .bool nb, .int .u64 (mb : Nat), .int .i64 eb] 31) (by repeat (first | exact List.mem_cons_self | apply List.mem_cons_of_mem)))
          have hB2 := hB.trans (hL2.below.mono hB.size)
          go_wp2
          go_roundg (gk - 1)
          case measure => omega
          case rel => exact ⟨i + 1, U, D, by simp, by omega, by omega, by omega, hL2.get (P := pT u6 20 U) (by repeat (first | exact List.mem_cons_self | apply List.mem_cons_of_mem)), hL2.get (P := pT u7 20 D) (by repeat (first | exact List.mem_cons_self | apply List.mem_cons_of_mem)), more60 hU, more60 hD, hL2.get (P := QuS g 1 (encQ 1 U D)) (by repeat (first | exact List.mem_cons_self | apply List.mem_cons_of_mem)), hB2⟩
        case inr.inl =>
          go_wp2_with fail
          refine (d1.out _ (hVr.out _ (Below.refl _ _))).mono ?_
          rintro ex w1 ⟨rfl, hb1⟩
          have hL1 := ((hLr.go hb1).go ((Below.refl _ _).alloc (Nat.le_refl _) (.cells #[.int .i64 4, .bool na, .int .u64 (ma : Nat), .int .i64 ea] 31))).put (pBlk_st _ _ _) (pBlk_made w1 #[.int .i64 4, .bool na, .int .u64 (ma : Nat), .int .i64 ea] 31)
          have hz1 := hb1.size
          clear hb1
          go_wp2_with fail
          refine (d2.out _ (hVr.out _ hL1.below)).mono ?_
          rintro ex w2 ⟨rfl, hb2⟩
          have hL2 := ((hL1.go hb2).go ((Below.refl _ _).alloc (Nat.le_refl _) (.cells #[.int .i64 2, .bool nb, .int .u64 (mb : Nat), .int .i64 eb] 31))).put (pBlk_st _ _ _) (pBlk_made w2 #[.int .i64 2, .bool nb, .int .u64 (mb : Nat), .int .i64 eb] 31)
          have hz2 := hb2.size
          clear hb2
          obtain ⟨a0, a1, a2, a3⟩ := cells4R (hL2.get (P := pBlk w1.heap.size #[.int .i64 4, .bool na, .int .u64 (ma : Nat), .int .i64 ea] 31) (by repeat (first | exact List.mem_cons_self | apply List.mem_cons_of_mem)))
          obtain ⟨b0', b1, b2, b3⟩ := cells4R (hL2.get (P := pBlk w2.heap.size #[.int .i64 2, .bool nb, .int .u64 (mb : Nat), .int .i64 eb] 31) (by repeat (first | exact List.mem_cons_self | apply List.mem_cons_of_mem)))
          have hB2 := hB.trans (hL2.below.mono hB.size)
          go_wp2
          go_roundg (gk - 1)
          case measure => omega
          case rel => exact ⟨i + 1, U, D, by simp, by omega, by omega, by omega, hL2.get (P := pT u6 20 U) (by repeat (first | exact List.mem_cons_self | apply List.mem_cons_of_mem)), hL2.get (P := pT u7 20 D) (by repeat (first | exact List.mem_cons_self | apply List.mem_cons_of_mem)), more60 hU, more60 hD, hL2.get (P := QuS g 1 (encQ 1 U D)) (by repeat (first | exact List.mem_cons_self | apply List.mem_cons_of_mem)), hB2⟩
        case inr.inr =>
          go_wp2_with fail
          refine (d1.out _ (hVr.out _ (Below.refl _ _))).mono ?_
          rintro ex w1 ⟨rfl, hb1⟩
          have hL1 := ((hLr.go hb1).go ((Below.refl _ _).alloc (Nat.le_refl _) (.cells #[.int .i64 4, .bool na, .int .u64 (ma : Nat), .int .i64 ea] 31))).put (pBlk_st _ _ _) (pBlk_made w1 #[.int .i64 4, .bool na, .int .u64 (ma : Nat), .int .i64 ea] 31)
          have hz1 := hb1.size
          clear hb1
          go_wp2_with fail
          refine (d2.out _ (hVr.out _ hL1.below)).mono ?_
          rintro ex w2 ⟨rfl, hb2⟩
          have hL2 := ((hL1.go hb2).go ((Below.refl _ _).alloc (Nat.le_refl _) (.cells #[.int .i64 4, .bool nb, .int .u64 (mb : Nat), .int .i64 eb] 31))).put (pBlk_st _ _ _) (pBlk_made w2 #[.int .i64 4, .bool nb, .int .u64 (mb : Nat), .int .i64 eb] 31)
          have hz2 := hb2.size
          clear hb2
          obtain ⟨a0, a1, a2, a3⟩ := cells4R (hL2.get (P := pBlk w1.heap.size #[.int .i64 4, .bool na, .int .u64 (ma : Nat), .int .i64 ea] 31) (by repeat (first | exact List.mem_cons_self | apply List.mem_cons_of_mem)))
          obtain ⟨b0', b1, b2, b3⟩ := cells4R (hL2.get (P := pBlk w2.heap.size #[.int .i64 4, .bool nb, .int .u64 (mb : Nat), .int .i64 eb] 31) (by repeat (first | exact List.mem_cons_self | apply List.mem_cons_of_mem)))
          have hB2 := hB.trans (hL2.below.mono hB.size)
          go_wp2
          go_roundg (gk - 1)
          case measure => omega
          case rel => exact ⟨i + 1, U, D, by simp, by omega, by omega, by omega, hL2.get (P := pT u6 20 U) (by repeat (first | exact List.mem_cons_self | apply List.mem_cons_of_mem)), hL2.get (P := pT u7 20 D) (by repeat (first | exact List.mem_cons_self | apply List.mem_cons_of_mem)), more60 hU, more60 hD, hL2.get (P := QuS g 1 (encQ 1 U D)) (by repeat (first | exact List.mem_cons_self | apply List.mem_cons_of_mem)), hB2⟩
      case inl =>
        rcases hcb with rfl | rfl | rfl
        case inl =>
          have hrq := Lib.hid (hrd (by decide) (by decide))
          rw [if_neg (by decide)] at hrq
          clear hrd hpb
          go_wp2_with fail
          refine (d1.out _ (hVr.out _ (Below.refl _ _))).mono ?_
          rintro ex w1 ⟨rfl, hb1⟩
          have hL1 := ((hLr.go hb1).go ((Below.refl _ _).alloc (Nat.le_refl _) (.cells #[.int .i64 1, .bool na, .int .u64 (ma : Nat), .int .i64 ea] 31))).put (pBlk_st _ _ _) (pBlk_made w1 #[.int .i64 1, .bool na, .int .u64 (ma : Nat), .int .i64 ea] 31)
          have hz1 := hb1.size
          clear hb1
          go_wp2_with fail
          refine (d2.out _ (hVr.out _ hL1.below)).mono ?_
          rintro ex w2 ⟨rfl, hb2⟩
          have hL2 := ((hL1.go hb2).go ((Below.refl _ _).alloc (Nat.le_refl _) (.cells #[.int .i64 1, .bool nb, .int .u64 (mb : Nat), .int .i64 eb] 31))).put (pBlk_st _ _ _) (pBlk_made w2 #[.int .i64 1, .bool nb, .int .u64 (mb : Nat), .int .i64 eb] 31)
          have hz2 := hb2.size
          clear hb2
          obtain ⟨a0, a1, a2, a3⟩ := cells4R (hL2.get (P := pBlk w1.heap.size #[.int .i64 1, .bool na, .int .u64 (ma : Nat), .int .i64 ea] 31) (by repeat (first | exact List.mem_cons_self | apply List.mem_cons_of_mem)))
          obtain ⟨b0', b1, b2, b3⟩ := cells4R (hL2.get (P := pBlk w2.heap.size #[.int .i64 1, .bool nb, .int .u64 (mb : Nat), .int .i64 eb] 31) (by repeat (first | exact List.mem_cons_self | apply List.mem_cons_of_mem)))
          have hB2 := hB.trans (hL2.below.mono hB.size)
          go_wp2_with fail
          refine (hadq.out _ (hL2.get (P := QuS g 1 (encQ 1 U D)) (by repeat (first | exact List.mem_cons_self | apply List.mem_cons_of_mem))) (hVr.out _ hL2.below)).mono ?_
          rintro ex w3 ⟨rfl, hq3, hm3⟩
          have hu3 : IsT w3 u6 20 U := IsT.mut (hL2.get (P := pT u6 20 U) (by repeat (first | exact List.mem_cons_self | apply List.mem_cons_of_mem))) hm3
          have hd3 : IsT w3 u7 20 D := IsT.mut (hL2.get (P := pT u7 20 D) (by repeat (first | exact List.mem_cons_self | apply List.mem_cons_of_mem))) hm3
          have pa3 := (hL2.get (P := pBlk w1.heap.size #[.int .i64 1, .bool na, .int .u64 (ma : Nat), .int .i64 ea] 31) (by repeat (first | exact List.mem_cons_self | apply List.mem_cons_of_mem))).mut hm3 (by have := hgr; have := hL1.size; omega)
          have pb3 := (hL2.get (P := pBlk w2.heap.size #[.int .i64 1, .bool nb, .int .u64 (mb : Nat), .int .i64 eb] 31) (by repeat (first | exact List.mem_cons_self | apply List.mem_cons_of_mem))).mut hm3 (by have := hgr; have := hL1.size; have := hL2.size; omega)
          have hB3 := hB2.trans (hm3.below hB2.size hgw)
          clear a0 a1 a2 a3 b0' b1 b2 b3
          obtain ⟨a0, a1, a2, a3⟩ := cells4R pa3
          obtain ⟨b0', b1, b2, b3⟩ := cells4R pb3
          go_wp2
          go_roundg (gk - 1)
          case measure => omega
          case rel => exact ⟨i + 1, U, D, by simp, by omega, by omega, by omega, hu3, hd3, more60 hU, more60 hD, by rw [← hrq.out]; exact hq3, hB3⟩
        case inr.inl =>
          have hrq := Lib.hid (hrd (by decide) (by decide))
          rw [if_neg (by decide)] at hrq
          clear hrd hpb
          go_wp2_with fail
          refine (d1.out _ (hVr.out _ (Below.refl _ _))).mono ?_
          rintro ex w1 ⟨rfl, hb1⟩
          have hL1 := ((hLr.go hb1).go ((Below.refl _ _).alloc (Nat.le_refl _) (.cells #[.int .i64 1, .bool na, .int .u64 (ma : Nat), .int .i64 ea] 31))).put (pBlk_st _ _ _) (pBlk_made w1 #[.int .i64 1, .bool na, .int .u64 (ma : Nat), .int .i64 ea] 31)
          have hz1 := hb1.size
          clear hb1
          go_wp2_with fail
          refine (d2.out _ (hVr.out _ hL1.below)).mono ?_
          rintro ex w2 ⟨rfl, hb2⟩
          have hL2 := ((hL1.go hb2).go ((Below.refl _ _).alloc (Nat.le_refl _) (.cells #[.int .i64 2, .bool nb, .int .u64 (mb : Nat), .int .i64 eb] 31))).put (pBlk_st _ _ _) (pBlk_made w2 #[.int .i64 2, .bool nb, .int .u64 (mb : Nat), .int .i64 eb] 31)
          have hz2 := hb2.size
          clear hb2
          obtain ⟨a0, a1, a2, a3⟩ := cells4R (hL2.get (P := pBlk w1.heap.size #[.int .i64 1, .bool na, .int .u64 (ma : Nat), .int .i64 ea] 31) (by repeat (first | exact List.mem_cons_self | apply List.mem_cons_of_mem)))
          obtain ⟨b0', b1, b2, b3⟩ := cells4R (hL2.get (P := pBlk w2.heap.size #[.int .i64 2, .bool nb, .int .u64 (mb : Nat), .int .i64 eb] 31) (by repeat (first | exact List.mem_cons_self | apply List.mem_cons_of_mem)))
          have hB2 := hB.trans (hL2.below.mono hB.size)
          go_wp2_with fail
          refine (hadq.out _ (hL2.get (P := QuS g 1 (encQ 1 U D)) (by repeat (first | exact List.mem_cons_self | apply List.mem_cons_of_mem))) (hVr.out _ hL2.below)).mono ?_
          rintro ex w3 ⟨rfl, hq3, hm3⟩
          have hu3 : IsT w3 u6 20 U := IsT.mut (hL2.get (P := pT u6 20 U) (by repeat (first | exact List.mem_cons_self | apply List.mem_cons_of_mem))) hm3
          have hd3 : IsT w3 u7 20 D := IsT.mut (hL2.get (P := pT u7 20 D) (by repeat (first | exact List.mem_cons_self | apply List.mem_cons_of_mem))) hm3
          have pa3 := (hL2.get (P := pBlk w1.heap.size #[.int .i64 1, .bool na, .int .u64 (ma : Nat), .int .i64 ea] 31) (by repeat (first | exact List.mem_cons_self | apply List.mem_cons_of_mem))).mut hm3 (by have := hgr; have := hL1.size; omega)
          have pb3 := (hL2.get (P := pBlk w2.heap.size #[.int .i64 2, .bool nb, .int .u64 (mb : Nat), .int .i64 eb] 31) (by repeat (first | exact List.mem_cons_self | apply List.mem_cons_of_mem))).mut hm3 (by have := hgr; have := hL1.size; have := hL2.size; omega)
          have hB3 := hB2.trans (hm3.below hB2.size hgw)
          clear a0 a1 a2 a3 b0' b1 b2 b3
          obtain ⟨a0, a1, a2, a3⟩ := cells4R pa3
          obtain ⟨b0', b1, b2, b3⟩ := cells4R pb3
          go_wp2
          go_roundg (gk - 1)
          case measure => omega
          case rel => exact ⟨i + 1, U, D, by simp, by omega, by omega, by omega, hu3, hd3, more60 hU, more60 hD, by rw [← hrq.out]; exact hq3, hB3⟩
        case inr.inr =>
          clear hrd hpb hadq
          go_wp2_with fail
          refine (d1.out _ (hVr.out _ (Below.refl _ _))).mono ?_
          rintro ex w1 ⟨rfl, hb1⟩
          have hL1 := ((hLr.go hb1).go ((Below.refl _ _).alloc (Nat.le_refl _) (.cells #[.int .i64 1, .bool na, .int .u64 (ma : Nat), .int .i64 ea] 31))).put (pBlk_st _ _ _) (pBlk_made w1 #[.int .i64 1, .bool na, .int .u64 (ma : Nat), .int .i64 ea] 31)
          have hz1 := hb1.size
          clear hb1
          go_wp2_with fail
          refine (d2.out _ (hVr.out _ hL1.below)).mono ?_
          rintro ex w2 ⟨rfl, hb2⟩
          have hL2 := ((hL1.go hb2).go ((Below.refl _ _).alloc (Nat.le_refl _) (.cells #[.int .i64 4, .bool nb, .int .u64 (mb : Nat), .int .i64 eb] 31))).put (pBlk_st _ _ _) (pBlk_made w2 #[.int .i64 4, .bool nb, .int .u64 (mb : Nat), .int .i64 eb] 31)
          have hz2 := hb2.size
          clear hb2
          obtain ⟨a0, a1, a2, a3⟩ := cells4R (hL2.get (P := pBlk w1.heap.size #[.int .i64 1, .bool na, .int .u64 (ma : Nat), .int .i64 ea] 31) (by repeat (first | exact List.mem_cons_self | apply List.mem_cons_of_mem)))
          obtain ⟨b0', b1, b2, b3⟩ := cells4R (hL2.get (P := pBlk w2.heap.size #[.int .i64 4, .bool nb, .int .u64 (mb : Nat), .int .i64 eb] 31) (by repeat (first | exact List.mem_cons_self | apply List.mem_cons_of_mem)))
          have hB2 := hB.trans (hL2.below.mono hB.size)
          go_wp2
          go_roundg (gk - 1)
          case measure => omega
          case rel => exact ⟨i + 1, U, D, by simp, by omega, by omega, by omega, hL2.get (P := pT u6 20 U) (by repeat (first | exact List.mem_cons_self | apply List.mem_cons_of_mem)), hL2.get (P := pT u7 20 D) (by repeat (first | exact List.mem_cons_self | apply List.mem_cons_of_mem)), more60 hU, more60 hD, hL2.get (P := QuS g 1 (encQ 1 U D)) (by repeat (first | exact List.mem_cons_self | apply List.mem_cons_of_mem)), hB2⟩
      case inr.inl =>
        rcases hcb with rfl | rfl | rfl
        case inl =>
          have hrq := Lib.hid (hrd (by decide) (by decide))
          rw [if_neg (by decide)] at hrq
          clear hrd hpb
          go_wp2_with fail
          refine (d1.out _ (hVr.out _ (Below.refl _ _))).mono ?_
          rintro ex w1 ⟨rfl, hb1⟩
          have hL1 := ((hLr.go hb1).go ((Below.refl _ _).alloc (Nat.le_refl _) (.cells #[.int .i64 2, .bool na, .int .u64 (ma : Nat), .int .i64 ea] 31))).put (pBlk_st _ _ _) (pBlk_made w1 #[.int .i64 2, .bool na, .int .u64 (ma : Nat), .int .i64 ea] 31)
          have hz1 := hb1.size
          clear hb1
          go_wp2_with fail
          refine (d2.out _ (hVr.out _ hL1.below)).mono ?_
          rintro ex w2 ⟨rfl, hb2⟩
          have hL2 := ((hL1.go hb2).go ((Below.refl _ _).alloc (Nat.le_refl _) (.cells #[.int .i64 1, .bool nb, .int .u64 (mb : Nat), .int .i64 eb] 31))).put (pBlk_st _ _ _) (pBlk_made w2 #[.int .i64 1, .bool nb, .int .u64 (mb : Nat), .int .i64 eb] 31)
          have hz2 := hb2.size
          clear hb2
          obtain ⟨a0, a1, a2, a3⟩ := cells4R (hL2.get (P := pBlk w1.heap.size #[.int .i64 2, .bool na, .int .u64 (ma : Nat), .int .i64 ea] 31) (by repeat (first | exact List.mem_cons_self | apply List.mem_cons_of_mem)))
          obtain ⟨b0', b1, b2, b3⟩ := cells4R (hL2.get (P := pBlk w2.heap.size #[.int .i64 1, .bool nb, .int .u64 (mb : Nat), .int .i64 eb] 31) (by repeat (first | exact List.mem_cons_self | apply List.mem_cons_of_mem)))
          have hB2 := hB.trans (hL2.below.mono hB.size)
          go_wp2_with fail
          refine (hadq.out _ (hL2.get (P := QuS g 1 (encQ 1 U D)) (by repeat (first | exact List.mem_cons_self | apply List.mem_cons_of_mem))) (hVr.out _ hL2.below)).mono ?_
          rintro ex w3 ⟨rfl, hq3, hm3⟩
          have hu3 : IsT w3 u6 20 U := IsT.mut (hL2.get (P := pT u6 20 U) (by repeat (first | exact List.mem_cons_self | apply List.mem_cons_of_mem))) hm3
          have hd3 : IsT w3 u7 20 D := IsT.mut (hL2.get (P := pT u7 20 D) (by repeat (first | exact List.mem_cons_self | apply List.mem_cons_of_mem))) hm3
          have pa3 := (hL2.get (P := pBlk w1.heap.size #[.int .i64 2, .bool na, .int .u64 (ma : Nat), .int .i64 ea] 31) (by repeat (first | exact List.mem_cons_self | apply List.mem_cons_of_mem))).mut hm3 (by have := hgr; have := hL1.size; omega)
          have pb3 := (hL2.get (P := pBlk w2.heap.size #[.int .i64 1, .bool nb, .int .u64 (mb : Nat), .int .i64 eb] 31) (by repeat (first | exact List.mem_cons_self | apply List.mem_cons_of_mem))).mut hm3 (by have := hgr; have := hL1.size; have := hL2.size; omega)
          have hB3 := hB2.trans (hm3.below hB2.size hgw)
          clear a0 a1 a2 a3 b0' b1 b2 b3
          obtain ⟨a0, a1, a2, a3⟩ := cells4R pa3
          obtain ⟨b0', b1, b2, b3⟩ := cells4R pb3
          go_wp2
          go_roundg (gk - 1)
          case measure => omega
          case rel => exact ⟨i + 1, U, D, by simp, by omega, by omega, by omega, hu3, hd3, more60 hU, more60 hD, by rw [← hrq.out]; exact hq3, hB3⟩
        case inr.inl =>
          have hrq := Lib.hid (hrd (by decide) (by decide))
          rw [if_pos ⟨rfl, rfl⟩] at hrq
          obtain ⟨p0, -, p2, p3, p4, p5, p6, p7, p8⟩ := hpb rfl rfl
          clear hrd hpb
          obtain ⟨Z, hZ⟩ : ∃ Z, quM 1 ma ea mb eb = Z := ⟨_, rfl⟩
          rw [hZ] at hrq p2
          have hM : ma * mb * 2 ^ (ea + eb - quL 1).toNat = Z := hZ
          rw [hs2] at hM p0
          have hfu := Lib.hid (more_fit hU.out hi2 p2)
          have hfd := Lib.hid (more_fit hD.out hi2 p2)
          have hz20 := (more_fit (U := 0) (i := 0) (by simp) (by decide) p2).2
          rw [Nat.zero_add] at hz20
          replace p2 := Lib.hid p2
          have hsh := Lib.hid fun (k : Nat) (hk : ea + eb + 48 = (k : Int)) (W' : World) (v : Value) (a : IsT W' v 2 (ma * mb)) => (shl_t (k : Int) 20 Z (IsT.isN a) (by decide) (by rw [← hM]; congr 2; omega) hz20).mono (fun e w' (h : TellsT W' 20 Z e w') => (show ∃ v, e = .returned v ∧ IsT w' v 20 Z ∧ Below W'.heap.size W' w' from h))
          obtain ⟨k, hk⟩ : ∃ k : Nat, ea + eb + 48 = (k : Int) := ⟨(ea + eb + 48).toNat, by omega⟩
          replace hsh := Lib.hid (hsh.out k hk)
          have hn1 := Lib.hid fun (W' : World) => (of_t W' ma p3).mono (fun e w' (h : TellsT W' 1 ma e w') => (show ∃ v, e = .returned v ∧ IsT w' v 1 ma ∧ Below W'.heap.size W' w' from h))
          have hn2 := Lib.hid fun (W' : World) => (of_t W' mb p4).mono (fun e w' (h : TellsT W' 1 mb e w') => (show ∃ v, e = .returned v ∧ IsT w' v 1 mb ∧ Below W'.heap.size W' w' from h))
          have hmu := Lib.hid fun (W' : World) (v1 v2 : Value) (a : IsT W' v1 1 ma) (b : IsT W' v2 1 mb) => (mul_t (IsT.isN a) (IsT.isN b) (by decide) (by decide)).mono (fun e w' (h : TellsT W' (1 + 1) (ma * mb) e w') => (show ∃ v, e = .returned v ∧ IsT w' v 2 (ma * mb) ∧ Below W'.heap.size W' w' from h))
          have hwe : Hid (IntKind.i64.wrap (ea + eb) = ea + eb) := by show _ = _; rw [IntKind.wrap_i64]; omega
          have hwd : Hid (IntKind.i64.wrap (ea + eb + 48) = (k : Int)) := by show _ = _; rw [IntKind.wrap_i64]; omega
          have hw2 : Hid (ea + eb + 48 = (k : Int)) := hk
          clear hM hZ hz20 hk p0
          go_wp2_with fail
          refine (d1.out _ (hVr.out _ (Below.refl _ _))).mono ?_
          rintro ex w1 ⟨rfl, hb1⟩
          have hL1 := ((hLr.go hb1).go ((Below.refl _ _).alloc (Nat.le_refl _) (.cells #[.int .i64 2, .bool na, .int .u64 (ma : Nat), .int .i64 ea] 31))).put (pBlk_st _ _ _) (pBlk_made w1 #[.int .i64 2, .bool na, .int .u64 (ma : Nat), .int .i64 ea] 31)
          have hz1 := hb1.size
          clear hb1
          go_wp2_with fail
          refine (d2.out _ (hVr.out _ hL1.below)).mono ?_
          rintro ex w2 ⟨rfl, hb2⟩
          have hL2 := ((hL1.go hb2).go ((Below.refl _ _).alloc (Nat.le_refl _) (.cells #[.int .i64 2, .bool nb, .int .u64 (mb : Nat), .int .i64 eb] 31))).put (pBlk_st _ _ _) (pBlk_made w2 #[.int .i64 2, .bool nb, .int .u64 (mb : Nat), .int .i64 eb] 31)
          have hz2 := hb2.size
          clear hb2
          obtain ⟨a0, a1, a2, a3⟩ := cells4R (hL2.get (P := pBlk w1.heap.size #[.int .i64 2, .bool na, .int .u64 (ma : Nat), .int .i64 ea] 31) (by repeat (first | exact List.mem_cons_self | apply List.mem_cons_of_mem)))
          obtain ⟨b0', b1, b2, b3⟩ := cells4R (hL2.get (P := pBlk w2.heap.size #[.int .i64 2, .bool nb, .int .u64 (mb : Nat), .int .i64 eb] 31) (by repeat (first | exact List.mem_cons_self | apply List.mem_cons_of_mem)))
          have hB2 := hB.trans (hL2.below.mono hB.size)
          go_wp2_with fail
          refine (hadq.out _ (hL2.get (P := QuS g 1 (encQ 1 U D)) (by repeat (first | exact List.mem_cons_self | apply List.mem_cons_of_mem))) (hVr.out _ hL2.below)).mono ?_
          rintro ex w3 ⟨rfl, hq3, hm3⟩
          have hu3 : IsT w3 u6 20 U := IsT.mut (hL2.get (P := pT u6 20 U) (by repeat (first | exact List.mem_cons_self | apply List.mem_cons_of_mem))) hm3
          have hd3 : IsT w3 u7 20 D := IsT.mut (hL2.get (P := pT u7 20 D) (by repeat (first | exact List.mem_cons_self | apply List.mem_cons_of_mem))) hm3
          have pa3 := (hL2.get (P := pBlk w1.heap.size #[.int .i64 2, .bool na, .int .u64 (ma : Nat), .int .i64 ea] 31) (by repeat (first | exact List.mem_cons_self | apply List.mem_cons_of_mem))).mut hm3 (by have := hgr; have := hL1.size; omega)
          have pb3 := (hL2.get (P := pBlk w2.heap.size #[.int .i64 2, .bool nb, .int .u64 (mb : Nat), .int .i64 eb] 31) (by repeat (first | exact List.mem_cons_self | apply List.mem_cons_of_mem))).mut hm3 (by have := hgr; have := hL1.size; have := hL2.size; omega)
          have hB3 := hB2.trans (hm3.below hB2.size hgw)
          have hLz := (((((LiveP.start w3).put (QuS_st g 1 Q) hq3).put (pT_st u6 20 U) hu3).put (pT_st u7 20 D) hd3).put (pBlk_st _ _ _) pa3).put (pBlk_st _ _ _) pb3
          have hS0 : (LiveP w3 w3.drew [pBlk w2.heap.size #[.int .i64 2, .bool nb, .int .u64 (mb : Nat), .int .i64 eb] 31, pBlk w1.heap.size #[.int .i64 2, .bool na, .int .u64 (ma : Nat), .int .i64 ea] 31, pT u7 20 D, pT u6 20 U, QuS g 1 Q] ∧ w1.heap.size < (w3.drew).heap.size ∧ w2.heap.size < (w3.drew).heap.size ∧ (w3.drew).cell? ⟨w1.heap.size, 2, none⟩ = some (.int .u64 (ma : Nat)) ∧ (w3.drew).cell? ⟨w1.heap.size, 3, none⟩ = some (.int .i64 ea) ∧ (w3.drew).cell? ⟨w2.heap.size, 2, none⟩ = some (.int .u64 (mb : Nat)) ∧ (w3.drew).cell? ⟨w2.heap.size, 3, none⟩ = some (.int .i64 eb)) := boxT (hLz.go (Below.refl _ _).drew)
          clear a0 a1 a2 a3 b0' b1 b2 b3
          obtain ⟨a0, -, -, -⟩ := cells4R pa3
          obtain ⟨b0', -, -, -⟩ := cells4R pb3
          have l3a := pa3.lt
          have l3b := pb3.lt
          clear hLr hL1 hL2 hq hadq d1 d2 hq3 hu3 hd3 pa3 pb3 hm3 hz1 hz2 hL0 hu hd hB hB2 hVr
          go_wp2_with fail
          go_region_held3 (fun w' => (LiveP w3 w' [pBlk w2.heap.size #[.int .i64 2, .bool nb, .int .u64 (mb : Nat), .int .i64 eb] 31, pBlk w1.heap.size #[.int .i64 2, .bool na, .int .u64 (ma : Nat), .int .i64 ea] 31, pT u7 20 D, pT u6 20 U, QuS g 1 Q] ∧ w1.heap.size < (w').heap.size ∧ w2.heap.size < (w').heap.size ∧ (w').cell? ⟨w1.heap.size, 2, none⟩ = some (.int .u64 (ma : Nat)) ∧ (w').cell? ⟨w1.heap.size, 3, none⟩ = some (.int .i64 ea) ∧ (w').cell? ⟨w2.heap.size, 2, none⟩ = some (.int .u64 (mb : Nat)) ∧ (w').cell? ⟨w2.heap.size, 3, none⟩ = some (.int .i64 eb))) (first | exact hS0 | with_reducible assumption | exact keepT (by with_reducible assumption) (by with_reducible assumption))
            (first
              | (go_at_call 17; with_reducible refine (hn1.out _).mono ?_; rintro e w4 ⟨v4, rfl, hv4, hb4⟩)
              | (go_at_call 17; with_reducible refine (hn2.out _).mono ?_; rintro e w5 ⟨v5, rfl, hv5, hb5⟩)
              | (go_at_call 20; with_reducible refine (hmu.out _ _ _ (by first | with_reducible assumption | exact hv4.below (by with_reducible assumption)) (by first | with_reducible assumption | exact hv5.below (by with_reducible assumption))).mono ?_; rintro e w7 ⟨v7, rfl, hv7, hb7⟩)
              | (go_at_call 19; (try rw [hwe.out]); (try rw [hwd.out]); (try rw [hw2.out]); with_reducible refine (hsh.out _ _ (by first | with_reducible assumption | exact IsT.below hv7 (by with_reducible assumption))).mono ?_; rintro e w8 ⟨v8, rfl, hv8, hb8⟩))
          have hq8 : (LiveP w3 w8 [pBlk w2.heap.size #[.int .i64 2, .bool nb, .int .u64 (mb : Nat), .int .i64 eb] 31, pBlk w1.heap.size #[.int .i64 2, .bool na, .int .u64 (ma : Nat), .int .i64 ea] 31, pT u7 20 D, pT u6 20 U, QuS g 1 Q] ∧ w1.heap.size < (w8).heap.size ∧ w2.heap.size < (w8).heap.size ∧ (w8).cell? ⟨w1.heap.size, 2, none⟩ = some (.int .u64 (ma : Nat)) ∧ (w8).cell? ⟨w1.heap.size, 3, none⟩ = some (.int .i64 ea) ∧ (w8).cell? ⟨w2.heap.size, 2, none⟩ = some (.int .u64 (mb : Nat)) ∧ (w8).cell? ⟨w2.heap.size, 3, none⟩ = some (.int .i64 eb)) := by with_reducible assumption
          have hL8 := hq8.1
          have pa := (hL8.get (P := pBlk w1.heap.size #[.int .i64 2, .bool na, .int .u64 (ma : Nat), .int .i64 ea] 31) (by repeat (first | exact List.mem_cons_self | apply List.mem_cons_of_mem))).cell 1 _ rfl
          have pb := (hL8.get (P := pBlk w2.heap.size #[.int .i64 2, .bool nb, .int .u64 (mb : Nat), .int .i64 eb] 31) (by repeat (first | exact List.mem_cons_self | apply List.mem_cons_of_mem))).cell 1 _ rfl
          have l8a := hq8.2.1
          have l8b := hq8.2.2.1
          have hB8 := hB3.trans (hL8.below.mono hB3.size)
          have hu8 := hL8.get (P := pT u6 20 U) (by repeat (first | exact List.mem_cons_self | apply List.mem_cons_of_mem))
          have hd8 := hL8.get (P := pT u7 20 D) (by repeat (first | exact List.mem_cons_self | apply List.mem_cons_of_mem))
          have hQ8 := hL8.get (P := QuS g 1 Q) (by repeat (first | exact List.mem_cons_self | apply List.mem_cons_of_mem))
          have hau := Lib.hid (add_t (IsT.isN hu8) (IsT.isN hv8) (by decide) (by decide))
          have had := Lib.hid (add_t (IsT.isN hd8) (IsT.isN hv8) (by decide) (by decide))
          clear hS0 hn1 hn2 hmu hsh hwe hwd hw2 hq8 hL8 hLz
          cases hb : (na != nb) with
          | true =>
            rw [hb, if_pos rfl] at hrq
            have hb1 : (!(na == nb)) = true := hb
            have hb2 : (na == nb) = false := by simpa using hb1
            clear hb
            go_wp2_with fail
            refine had.out.mono ?_
            rintro e w9 ⟨v9, rfl, hv9, hb9⟩
            go_wp2
            go_roundg (gk - 1)
            case measure => omega
            case rel => exact ⟨i + 1, U, D + Z, by simp, by omega, by omega, by omega, IsT.below hu8 hb9, hv9.more16 hfd.out.2, more60 hU, Lib.hid hfd.out.1, by rw [← hrq.out]; exact hQ8.below hb9, hB8.trans (hb9.mono hB8.size)⟩
          | false =>
            rw [hb, if_neg (by decide)] at hrq
            have hb1 : (!(na == nb)) = false := hb
            have hb2 : (na == nb) = true := by simpa using hb1
            clear hb
            go_wp2_with fail
            refine hau.out.mono ?_
            rintro e w9 ⟨v9, rfl, hv9, hb9⟩
            go_wp2
            go_roundg (gk - 1)
            case measure => omega
            case rel => exact ⟨i + 1, U + Z, D, by simp, by omega, by omega, by omega, hv9.more16 hfu.out.2, IsT.below hd8 hb9, Lib.hid hfu.out.1, more60 hD, by rw [← hrq.out]; exact hQ8.below hb9, hB8.trans (hb9.mono hB8.size)⟩
        case inr.inr =>
          clear hrd hpb hadq
          go_wp2_with fail
          refine (d1.out _ (hVr.out _ (Below.refl _ _))).mono ?_
          rintro ex w1 ⟨rfl, hb1⟩
          have hL1 := ((hLr.go hb1).go ((Below.refl _ _).alloc (Nat.le_refl _) (.cells #[.int .i64 2, .bool na, .int .u64 (ma : Nat), .int .i64 ea] 31))).put (pBlk_st _ _ _) (pBlk_made w1 #[.int .i64 2, .bool na, .int .u64 (ma : Nat), .int .i64 ea] 31)
          have hz1 := hb1.size
          clear hb1
          go_wp2_with fail
          refine (d2.out _ (hVr.out _ hL1.below)).mono ?_
          rintro ex w2 ⟨rfl, hb2⟩
          have hL2 := ((hL1.go hb2).go ((Below.refl _ _).alloc (Nat.le_refl _) (.cells #[.int .i64 4, .bool nb, .int .u64 (mb : Nat), .int .i64 eb] 31))).put (pBlk_st _ _ _) (pBlk_made w2 #[.int .i64 4, .bool nb, .int .u64 (mb : Nat), .int .i64 eb] 31)
          have hz2 := hb2.size
          clear hb2
          obtain ⟨a0, a1, a2, a3⟩ := cells4R (hL2.get (P := pBlk w1.heap.size #[.int .i64 2, .bool na, .int .u64 (ma : Nat), .int .i64 ea] 31) (by repeat (first | exact List.mem_cons_self | apply List.mem_cons_of_mem)))
          obtain ⟨b0', b1, b2, b3⟩ := cells4R (hL2.get (P := pBlk w2.heap.size #[.int .i64 4, .bool nb, .int .u64 (mb : Nat), .int .i64 eb] 31) (by repeat (first | exact List.mem_cons_self | apply List.mem_cons_of_mem)))
          have hB2 := hB.trans (hL2.below.mono hB.size)
          go_wp2
          go_roundg (gk - 1)
          case measure => omega
          case rel => exact ⟨i + 1, U, D, by simp, by omega, by omega, by omega, hL2.get (P := pT u6 20 U) (by repeat (first | exact List.mem_cons_self | apply List.mem_cons_of_mem)), hL2.get (P := pT u7 20 D) (by repeat (first | exact List.mem_cons_self | apply List.mem_cons_of_mem)), more60 hU, more60 hD, hL2.get (P := QuS g 1 (encQ 1 U D)) (by repeat (first | exact List.mem_cons_self | apply List.mem_cons_of_mem)), hB2⟩
    · have hz0 := Lib.hid (dif_lt hi60 hU.out hD.out)
      have hvt := Lib.hid fun (W : World) (x : QuS g 1 (encQ 1 U D) W) => value_t hi60 hU.out hD.out x
      have hpt := Lib.hid fun (W : World) (hV : VaW W) (x : QuS g 1 (encQ 1 U D) W) => posit_t hi60 hU.out hD.out hV x
      have hex : (¬ (i : Int) < (n : Int)) ∨ ((i : Int) < (n : Int) ∧ ¬ (i : Int) < 60) := by omega
      obtain ⟨E, hE⟩ : ∃ E, encQ 1 U D = E := ⟨_, rfl⟩
      rw [hE] at hvt hpt hq
      obtain ⟨Z, hZ⟩ : ∃ Z, difQ U D = Z := ⟨_, rfl⟩
      obtain ⟨P, hP⟩ : ∃ P, roundP 1 1 (decide (U < D)) (exP Z (-48) 0) (exQ (-48) 0) = P := ⟨_, rfl⟩
      rw [hZ] at hvt hpt hz0
      rw [hP] at hpt
      have hgl := hq.lt
      have hL1 := ((((LiveP.start wr).put (QuS_st g 1 E) hq).put (pT_st u6 20 U) hu).put (pT_st u7 20 D) hd |>.go ((Below.refl _ _).alloc (Nat.le_refl _) (.cells #[.bool false, .slice none 0 0, .int .i64 (-48), .int .i64 0] 52))).put (pBlk_st _ _ _) (pBlk_made wr #[.bool false, .slice none 0 0, .int .i64 (-48), .int .i64 0] 52)
      clear hE0 hs1 hs2 hl _hn _hc hgo hL0 hE hq hu hd
      by_cases hUD : D ≤ U
      · have hdc : decide (U < D) = false := by simp; omega
        have hZ' : U - D = Z := by rw [← hZ]; unfold difQ; rw [if_pos hUD]
        have hsu := Lib.hid fun (W : World) (a : IsT W u6 20 U) (b : IsT W u7 20 D) => (show Calls _ _ _ W (fun e w' => ∃ v, e = .returned (.tuple #[v, .bool true]) ∧ IsT w' v 20 Z ∧ Below W.heap.size W w') from by rw [← hZ']; exact sub_t (IsT.isN a) (IsT.isN b) (by decide) (by decide) hUD)
        rw [hdc] at hvt hP
        clear hZ hZ' hdc hUD
        rcases hex with h1 | ⟨h1, h2⟩
        all_goals
          go_wp2_with fail
          refine (hsu.out _ (hL1.get (P := pT u6 20 U) (by repeat (first | exact List.mem_cons_self | apply List.mem_cons_of_mem))) (hL1.get (P := pT u7 20 D) (by repeat (first | exact List.mem_cons_self | apply List.mem_cons_of_mem)))).mono ?_
          rintro ex w2 ⟨v3, rfl, hv3, hb2⟩
          obtain ⟨A3, c3, z3, rfl, -⟩ := _root_.id hv3
          obtain ⟨n3, hn3⟩ : ∃ n, z3.length = n := ⟨_, rfl⟩
          rw [hn3] at hv3 ⊢
          clear hn3
          have hL2 := (hL1.go hb2).put (pT_st (.slice A3 n3 c3) 20 Z) hv3
          obtain ⟨x, hx⟩ : ∃ x, wr.heap.size = x := ⟨_, rfl⟩
          have hp2 := hL2.get (P := pBlk wr.heap.size #[.bool false, .slice none 0 0, .int .i64 (-48), .int .i64 0] 52) (by repeat (first | exact List.mem_cons_self | apply List.mem_cons_of_mem))
          rw [hx] at hp2 ⊢
          obtain ⟨x0, x1, x2, x3⟩ := cells4R hp2
          have f1 := hp2.free 1
          have hxl := hp2.lt
          have hm := Mut.set (i := 1) hp2 (.slice A3 n3 c3) (.slice none 0 0) rfl (by simp)
          have hX4 : pBlk x #[.bool false, .slice A3 n3 c3, .int .i64 (-48), .int .i64 0] 52 (w2.setCell ⟨x, 1, none⟩ (.slice A3 n3 c3)) := hp2.setX 1 _
          have hQ4 := (hL2.get (P := QuS g 1 E) (by repeat (first | exact List.mem_cons_self | apply List.mem_cons_of_mem))).mutX hm (by omega)
          have hZ4 := IsT.up (hv3.mut hm) (show 20 ≤ 128 by decide)
          have hB4 := hB.trans ((hm.below (B := wr.heap.size) hL2.size (by omega)) |> (hL2.below.trans ·) |>.mono hB.size)
          go_wp2_with fail
          generalize w2.setCell ⟨x, 1, none⟩ (.slice A3 n3 c3) = w4 at hX4 hQ4 hZ4 hB4 ⊢
          clear x0 x1 x2 x3 f1 hxl hm hp2 hL2 hL1 hx hv3 hb2
          have hL4 := (((LiveP.start w4).put (QuS_st g 1 E) hQ4).put (pT_st (.slice A3 n3 c3) 128 Z) hZ4).put (pBlk_st _ _ _) hX4
          obtain ⟨x0, x1, x2, x3⟩ := cells4R hX4
          have hxl := hX4.lt
          have hpt := Lib.hid fun (W : World) (h : Below w4.heap.size w4 W) (x : QuS g 1 E W) => hpt.out W ((hW.below (hB4.trans (h.mono hB4.size))).va) x
          have hrd := Lib.hid fun (W : World) (h : Below w4.heap.size w4 W) (v : IsT W (.slice A3 n3 c3) 128 Z) => (show Calls _ _ _ W (fun e w' => e = .returned (.tuple #[.int .u64 P, .int .i64 0]) ∧ Below W.heap.size W w') from by rw [← hP]; exact round_yes 1 1 false Z (-48) 0 (by decide) (by decide) (by decide) ((hW.below (hB4.trans (h.mono hB4.size))).va) v)
          refine (hvt.out _ hQ4).mono ?_
          rintro ex w5 ⟨Y, A5, n5, c5, t, f, rfl, hY5, hfi, hb5⟩
          have hxc := Lib.hid fun (W : World) (a : IsT W (.slice A5 n5 c5) 128 Y) (b : IsT W (.slice A3 n3 c3) 128 Z) => xcs_pos t (-48) f 0 a b hfi.out.2.2.1 (by decide) hfi.out.2.2.2.1 (by decide) hfi.out.1 hfi.out.2.1
          have hL5 := (((hL4.go hb5).put (pT_st (.slice A5 n5 c5) 128 Y) hY5).go ((Below.refl _ _).alloc (Nat.le_refl _) (.cells #[.bool false, .slice A5 n5 c5, .int .i64 t, .int .i64 f] 52))).put (pBlk_st _ _ _) (pBlk_made w5 #[.bool false, .slice A5 n5 c5, .int .i64 t, .int .i64 f] 52)
          clear x0 x1 x2 x3 hxl hX4 hb5 hY5
          obtain ⟨x0, x1, x2, x3⟩ := cells4R (hL5.get (P := pBlk x #[.bool false, .slice A3 n3 c3, .int .i64 (-48), .int .i64 0] 52) (by repeat (first | exact List.mem_cons_self | apply List.mem_cons_of_mem)))
          have hxl := (hL5.get (P := pBlk x #[.bool false, .slice A3 n3 c3, .int .i64 (-48), .int .i64 0] 52) (by repeat (first | exact List.mem_cons_self | apply List.mem_cons_of_mem))).lt
          go_wp2_with fail
          refine (hrd.out _ hL5.below (hL5.get (P := pT (.slice A3 n3 c3) 128 Z) (by repeat (first | exact List.mem_cons_self | apply List.mem_cons_of_mem)))).mono ?_
          rintro ex w6 ⟨rfl, hb6⟩
          have hL6 := hL5.go hb6
          clear x0 x1 x2 x3 hxl
          obtain ⟨x0, x1, x2, x3⟩ := cells4R (hL6.get (P := pBlk x #[.bool false, .slice A3 n3 c3, .int .i64 (-48), .int .i64 0] 52) (by repeat (first | exact List.mem_cons_self | apply List.mem_cons_of_mem)))
          have hxl := (hL6.get (P := pBlk x #[.bool false, .slice A3 n3 c3, .int .i64 (-48), .int .i64 0] 52) (by repeat (first | exact List.mem_cons_self | apply List.mem_cons_of_mem))).lt
          obtain ⟨y0, y1, y2, y3⟩ := cells4R (hL6.get (P := pBlk w5.heap.size #[.bool false, .slice A5 n5 c5, .int .i64 t, .int .i64 f] 52) (by repeat (first | exact List.mem_cons_self | apply List.mem_cons_of_mem)))
          have hyl := (hL6.get (P := pBlk w5.heap.size #[.bool false, .slice A5 n5 c5, .int .i64 t, .int .i64 f] 52) (by repeat (first | exact List.mem_cons_self | apply List.mem_cons_of_mem))).lt
          go_wp2_with fail
          refine (hxc.out _ (hL6.get (P := pT (.slice A5 n5 c5) 128 Y) (by repeat (first | exact List.mem_cons_self | apply List.mem_cons_of_mem))) (hL6.get (P := pT (.slice A3 n3 c3) 128 Z) (by repeat (first | exact List.mem_cons_self | apply List.mem_cons_of_mem)))).mono ?_
          rintro ex w7 ⟨rfl, hb7⟩
          have hL7 := hL6.go hb7
          clear x0 x1 x2 x3 hxl y0 y1 y2 y3 hyl
          go_wp2_with fail
          refine (hpt.out _ hL7.below (hL7.get (P := QuS g 1 E) (by repeat (first | exact List.mem_cons_self | apply List.mem_cons_of_mem)))).mono ?_
          rintro ex w8 ⟨rfl, hb8⟩
          have hfin := hB4.trans ((hL7.go hb8).below.mono hB4.size)
          go_wp2
          go_ret
          exact ⟨rfl, hfin⟩
      · have hdc : decide (U < D) = true := by simp; omega
        have hZ' : D - U = Z := by rw [← hZ]; unfold difQ; rw [if_neg hUD]
        have hsn := Lib.hid fun (W : World) (a : IsT W u6 20 U) (b : IsT W u7 20 D) => (show Calls _ _ _ W (fun e w' => e = .returned (.tuple #[.slice none 0 0, .bool false]) ∧ Below W.heap.size W w') from sub_n (IsT.isN a) (IsT.isN b) (by decide) (by decide) (by omega))
        have hsu := Lib.hid fun (W : World) (a : IsT W u6 20 U) (b : IsT W u7 20 D) => (show Calls _ _ _ W (fun e w' => ∃ v, e = .returned (.tuple #[v, .bool true]) ∧ IsT w' v 20 Z ∧ Below W.heap.size W w') from by rw [← hZ']; exact sub_t (IsT.isN b) (IsT.isN a) (by decide) (by decide) (by omega))
        have hz1 := Lib.hid (show 0 < Z by omega)
        rw [hdc] at hvt hP
        clear hZ hZ' hdc hUD
        rcases hex with h1 | ⟨h1, h2⟩
        all_goals
          go_wp2_with fail
          refine (hsn.out _ (hL1.get (P := pT u6 20 U) (by repeat (first | exact List.mem_cons_self | apply List.mem_cons_of_mem))) (hL1.get (P := pT u7 20 D) (by repeat (first | exact List.mem_cons_self | apply List.mem_cons_of_mem)))).mono ?_
          rintro ex w2 ⟨rfl, hb2⟩
          have hL2 := hL1.go hb2
          obtain ⟨x, hx⟩ : ∃ x, wr.heap.size = x := ⟨_, rfl⟩
          have hp2 := hL2.get (P := pBlk wr.heap.size #[.bool false, .slice none 0 0, .int .i64 (-48), .int .i64 0] 52) (by repeat (first | exact List.mem_cons_self | apply List.mem_cons_of_mem))
          rw [hx] at hp2 ⊢
          obtain ⟨x0, x1, x2, x3⟩ := cells4R hp2
          have f1 := hp2.free 1
          have hxl := hp2.lt
          have hm := Mut.set (i := 1) hp2 (.slice none 0 0) (.slice none 0 0) rfl (by simp)
          have hp3 : pBlk x #[.bool false, .slice none 0 0, .int .i64 (-48), .int .i64 0] 52 (w2.setCell ⟨x, 1, none⟩ (.slice none 0 0)) := hp2.setX 1 _
          have hQ3 := (hL2.get (P := QuS g 1 E) (by repeat (first | exact List.mem_cons_self | apply List.mem_cons_of_mem))).mutX hm (by omega)
          have hu3 : IsT _ u6 20 U := IsT.mut (hL2.get (P := pT u6 20 U) (by repeat (first | exact List.mem_cons_self | apply List.mem_cons_of_mem))) hm
          have hd3 : IsT _ u7 20 D := IsT.mut (hL2.get (P := pT u7 20 D) (by repeat (first | exact List.mem_cons_self | apply List.mem_cons_of_mem))) hm
          have hB3 := hL2.below.trans (hm.below (B := wr.heap.size) hL2.size (by omega))
          go_wp2_with fail
          generalize w2.setCell ⟨x, 1, none⟩ (.slice none 0 0) = w3 at hp3 hQ3 hu3 hd3 hB3 ⊢
          clear x0 x1 x2 x3 f1 hxl hm hp2 hL2 hL1 hb2
          refine (hsu.out _ hu3 hd3).mono ?_
          rintro ex w2 ⟨v3, rfl, hv3, hb2⟩
          obtain ⟨A3, c3, z3, rfl, -⟩ := _root_.id hv3
          obtain ⟨n3, hn3⟩ : ∃ n, z3.length = n := ⟨_, rfl⟩
          rw [hn3] at hv3 ⊢
          clear hn3
          have hp2 := pBlk_st _ _ _ _ _ hp3 hb2
          obtain ⟨x0, x1, x2, x3⟩ := cells4R hp2
          have f1 := hp2.free 1
          have f0 := hp2.free 0
          have hxl := hp2.lt
          have hm := Mut.set (i := 1) hp2 (.slice A3 n3 c3) (.slice none 0 0) rfl (by simp)
          have hp5 : pBlk x #[.bool false, .slice A3 n3 c3, .int .i64 (-48), .int .i64 0] 52 (w2.setCell ⟨x, 1, none⟩ (.slice A3 n3 c3)) := hp2.setX 1 _
          have hm2 := Mut.set (i := 0) hp5 (.bool true) (.bool false) rfl (by simp)
          have hX4 : pBlk x #[.bool true, .slice A3 n3 c3, .int .i64 (-48), .int .i64 0] 52 ((w2.setCell ⟨x, 1, none⟩ (.slice A3 n3 c3)).setCell ⟨x, 0, none⟩ (.bool true)) := hp5.setX 0 _
          have hmm := hm.trans hm2
          have hQ4 := (hQ3.below hb2).mutX hmm (by omega)
          have hZ4 := IsT.up (hv3.mut hmm) (show 20 ≤ 128 by decide)
          have hB2 := hB3.trans (hb2.mono hB3.size)
          have hB4 := hB.trans ((hB2.trans (hmm.below (B := wr.heap.size) hB2.size (by omega))).mono hB.size)
          go_wp2_with fail
          generalize (w2.setCell ⟨x, 1, none⟩ (.slice A3 n3 c3)).setCell ⟨x, 0, none⟩ (.bool true) = w4 at hX4 hQ4 hZ4 hB4 ⊢
          clear x0 x1 x2 x3 f1 f0 hxl hm hm2 hmm hp2 hp5 hp3 hQ3 hu3 hd3 hB3 hB2 hx hv3 hb2
          have hL4 := (((LiveP.start w4).put (QuS_st g 1 E) hQ4).put (pT_st (.slice A3 n3 c3) 128 Z) hZ4).put (pBlk_st _ _ _) hX4
          obtain ⟨x0, x1, x2, x3⟩ := cells4R hX4
          have hxl := hX4.lt
          have hpt := Lib.hid fun (W : World) (h : Below w4.heap.size w4 W) (x : QuS g 1 E W) => hpt.out W ((hW.below (hB4.trans (h.mono hB4.size))).va) x
          have hrd := Lib.hid fun (W : World) (h : Below w4.heap.size w4 W) (v : IsT W (.slice A3 n3 c3) 128 Z) => (show Calls _ _ _ W (fun e w' => e = .returned (.tuple #[.int .u64 P, .int .i64 0]) ∧ Below W.heap.size W w') from by rw [← hP]; exact round_yes 1 1 true Z (-48) 0 (by decide) (by decide) (by decide) ((hW.below (hB4.trans (h.mono hB4.size))).va) v)
          refine (hvt.out _ hQ4).mono ?_
          rintro ex w5 ⟨Y, A5, n5, c5, t, f, rfl, hY5, hfi, hb5⟩
          have hxc := Lib.hid fun (W : World) (a : IsT W (.slice A5 n5 c5) 128 Y) (b : IsT W (.slice A3 n3 c3) 128 Z) => xcs_neg t (-48) f 0 a b hfi.out.2.2.1 (by decide) hfi.out.2.2.2.1 (by decide) ⟨hfi.out.2.2.2.2 rfl, hz1.out⟩ hfi.out.1 hfi.out.2.1
          have hL5 := (((hL4.go hb5).put (pT_st (.slice A5 n5 c5) 128 Y) hY5).go ((Below.refl _ _).alloc (Nat.le_refl _) (.cells #[.bool true, .slice A5 n5 c5, .int .i64 t, .int .i64 f] 52))).put (pBlk_st _ _ _) (pBlk_made w5 #[.bool true, .slice A5 n5 c5, .int .i64 t, .int .i64 f] 52)
          clear x0 x1 x2 x3 hxl hX4 hb5 hY5
          obtain ⟨x0, x1, x2, x3⟩ := cells4R (hL5.get (P := pBlk x #[.bool true, .slice A3 n3 c3, .int .i64 (-48), .int .i64 0] 52) (by repeat (first | exact List.mem_cons_self | apply List.mem_cons_of_mem)))
          have hxl := (hL5.get (P := pBlk x #[.bool true, .slice A3 n3 c3, .int .i64 (-48), .int .i64 0] 52) (by repeat (first | exact List.mem_cons_self | apply List.mem_cons_of_mem))).lt
          go_wp2_with fail
          refine (hrd.out _ hL5.below (hL5.get (P := pT (.slice A3 n3 c3) 128 Z) (by repeat (first | exact List.mem_cons_self | apply List.mem_cons_of_mem)))).mono ?_
          rintro ex w6 ⟨rfl, hb6⟩
          have hL6 := hL5.go hb6
          clear x0 x1 x2 x3 hxl
          obtain ⟨x0, x1, x2, x3⟩ := cells4R (hL6.get (P := pBlk x #[.bool true, .slice A3 n3 c3, .int .i64 (-48), .int .i64 0] 52) (by repeat (first | exact List.mem_cons_self | apply List.mem_cons_of_mem)))
          have hxl := (hL6.get (P := pBlk x #[.bool true, .slice A3 n3 c3, .int .i64 (-48), .int .i64 0] 52) (by repeat (first | exact List.mem_cons_self | apply List.mem_cons_of_mem))).lt
          obtain ⟨y0, y1, y2, y3⟩ := cells4R (hL6.get (P := pBlk w5.heap.size #[.bool true, .slice A5 n5 c5, .int .i64 t, .int .i64 f] 52) (by repeat (first | exact List.mem_cons_self | apply List.mem_cons_of_mem)))
          have hyl := (hL6.get (P := pBlk w5.heap.size #[.bool true, .slice A5 n5 c5, .int .i64 t, .int .i64 f] 52) (by repeat (first | exact List.mem_cons_self | apply List.mem_cons_of_mem))).lt
          go_wp2_with fail
          refine (hxc.out _ (hL6.get (P := pT (.slice A5 n5 c5) 128 Y) (by repeat (first | exact List.mem_cons_self | apply List.mem_cons_of_mem))) (hL6.get (P := pT (.slice A3 n3 c3) 128 Z) (by repeat (first | exact List.mem_cons_self | apply List.mem_cons_of_mem)))).mono ?_
          rintro ex w7 ⟨rfl, hb7⟩
          have hL7 := hL6.go hb7
          clear x0 x1 x2 x3 hxl y0 y1 y2 y3 hyl
          go_wp2_with fail
          refine (hpt.out _ hL7.below (hL7.get (P := QuS g 1 E) (by repeat (first | exact List.mem_cons_self | apply List.mem_cons_of_mem)))).mono ?_
          rintro ex w8 ⟨rfl, hb8⟩
          have hfin := hB4.trans ((hL7.go hb8).below.mono hB4.size)
          go_wp2
          go_ret
          exact ⟨rfl, hfin⟩
theorem topQuire_any (v : Value) (w : World) (hW : PrW w) (h : ArgH w v) :
    Calls Tryz.prog 4 #[v] w fun e w' => e = .returned (.bool true) ∧ Below w.heap.size w w' := by
  obtain ⟨A, n, c, rfl, hn, hc, hl⟩ := h
  exact topQuire_walk A n c w hW hn hc hl
end Go.Proofs.YtehpneojiinmdaaGreatDoor
