/- The nat layer: one digit of a quotient. Conditions: lengths below 2^38; what is divided is less than a word times the divisor. -/
/- The nat layer: copies. Conditions: lengths below 2^38. -/
import Derived.Test.YtncfbleeidjflaaGreatDoorPz14
import Derived.Test.YtncfbleeidjflaaGreatDoorPz00
import Derived.ArgAppend
namespace Go.Proofs.YtncfbleeidjflaaGreatDoor
open Go.RowKit Go.Cal
theorem quiet_of2 {P : Program} {f : FuncId} {args : Array Value} {w : World} {k n : Nat} {v : Value}
    (h : Calls P f args (w.drewN (k + n)) fun e w' => e = .returned v ∧ Drawn (w.drewN (k + n)) w') : Calls P f args (w.drewN (k + n)) fun e w'' => e = .returned v ∧ ∃ m, w'' = w.drewN (k + m) :=
  h.mono fun _ _ ⟨he, m, hm⟩ => ⟨he, n + m, by rw [hm, World.drewN_drewN, Nat.add_assoc]⟩
theorem dig_words {x y c : Nat} (hx : x < 18446744073709551616) (hy : y < 18446744073709551616) (hc : c < 18446744073709551616) :
    x * y / 18446744073709551616 + (x * y % 18446744073709551616 + c) / 18446744073709551616 < 18446744073709551616 ∧
    x * y + c = (x * y % 18446744073709551616 + c) % 18446744073709551616 + 18446744073709551616 * (x * y / 18446744073709551616 + (x * y % 18446744073709551616 + c) / 18446744073709551616) := by
  have h : x * y ≤ 18446744073709551615 * 18446744073709551615 := Nat.mul_le_mul (by omega) (by omega)
  omega
theorem sub_words {u l b : Nat} (hu : u < 18446744073709551616) (hl : l < 18446744073709551616) (hb : b ≤ 1) :
    (u + 18446744073709551616 - l - b) % 18446744073709551616 < 18446744073709551616 ∧ (if u < l + b then 1 else 0) ≤ 1 ∧
    (u + 18446744073709551616 - l - b) % 18446744073709551616 + l + b = u + 18446744073709551616 * (if u < l + b then 1 else 0) := by
  split <;> omega
theorem add_words {u y c : Nat} (hu : u < 18446744073709551616) (hy : y < 18446744073709551616) (hc : c ≤ 1) :
    (u + y + c) % 18446744073709551616 < 18446744073709551616 ∧ (u + y + c) / 18446744073709551616 ≤ 1 ∧ u + y + c = (u + y + c) % 18446744073709551616 + 18446744073709551616 * ((u + y + c) / 18446744073709551616) := by
  omega
theorem dmend_pos {b X V P S G : Nat} (h : DMend b X V P S G 1) : 0 < G := by
  rcases Nat.eq_zero_or_pos G with h0 | h0
  · have h1 := h.val
    have h2 := h.lt
    subst h0
    omega
  · exact h0
/-- What digit tells and leaves. -/
def DigitR (w : World) (g k n : Nat) (L : List Nat) (X V : Nat) (e : Ending) (w' : World) : Prop :=
  ∃ L', e = .returned (.int .u64 ((X / V : Nat) : Int)) ∧ BlkU w' g 22 L' ∧ WinEq L L' k n ∧ Dig 18446744073709551616 L' ∧ vl 18446744073709551616 ((L'.drop k).take (n + 1)) = X % V ∧ w.grownBy w' (some g)
set_option maxRecDepth 100000 in
set_option maxHeartbeats 1000000 in
theorem digit_lt {g k c c2 n : Nat} {B : Nat} {A2 : Option Addr} {L ys : List Nat} (w : World) (hB : BlkU w g 22 L) (hk : k + n + 1 ≤ L.length) (h2 : RdU w B A2 ys) (hBg : B ≤ g) (hyl : ys.length = n) (hn : 0 < n) (hn2 : L.length ≤ 274877906944)
    (dL : Dig 18446744073709551616 L) (d2 : Dig 18446744073709551616 ys) (hX : vl 18446744073709551616 ((L.drop k).take (n + 1)) < vl 18446744073709551616 ys * 18446744073709551616) (hlt : L.getD (k + n) 0 < ys.getD (n - 1) 0) :
    Calls Tryz.prog 185 #[.slice (some ⟨g, k, none⟩) (n + 1) c, .slice A2 n c2] w (DigitR w g k n L (vl 18446744073709551616 ((L.drop k).take (n + 1))) (vl 18446744073709551616 ys)) := by
  have hBw : B ≤ w.heap.size := Nat.le_trans hBg (Nat.le_of_lt hB.lt)
  obtain ⟨b2, o2, rfl, hb2, hcv⟩ := h2.at (i := n - 1) (by omega)
  have hv0 := hcv (n - 1) (by omega)
  clear hcv
  have hun := hB.cell (k + n) (by omega)
  have hun1 := hB.cell (k + (n - 1)) (by omega)
  have hn0 : (n : Int) < ((n + 1 : Nat) : Int) := by omega
  have hn1 : (n : Int) - 1 < (n : Int) := by omega
  have hn3 : (n : Int) - 1 < ((n + 1 : Nat) : Int) := by omega
  have hn4 : ((n : Int) - 1).toNat = n - 1 := by omega
  have hn5 : 0 ≤ (n : Int) - 1 := by omega
  obtain ⟨u1, hu1⟩ : ∃ x, L.getD (k + n) 0 = x := ⟨_, rfl⟩
  obtain ⟨u0, hu0⟩ : ∃ x, L.getD (k + (n - 1)) 0 = x := ⟨_, rfl⟩
  obtain ⟨v, hv⟩ : ∃ x, ys.getD (n - 1) 0 = x := ⟨_, rfl⟩
  rw [hu1] at hun hlt
  rw [hu0] at hun1
  rw [hv] at hv0 hlt
  have hu0b : u0 < 18446744073709551616 := hu0 ▸ dig_getD (by omega) dL _
  have hvb : v < 18446744073709551616 := hv ▸ dig_getD (by omega) d2 _
  have hlt' : (u1 : Int) < (v : Int) := by omega
  have hdv := fun W => div64_any u1 u0 v hu0b hlt hvb W
  obtain ⟨G, hG⟩ : ∃ G, (u1 * 18446744073709551616 + u0) / v = G := ⟨_, rfl⟩
  have hGb : G < 18446744073709551616 := by
    rw [← hG, Nat.div_lt_iff_lt_mul (by omega)]
    have : (u1 + 1) * 18446744073709551616 ≤ v * 18446744073709551616 := Nat.mul_le_mul_right _ hlt
    rw [Nat.mul_comm 18446744073709551616 v]
    omega
  have hGtop : vl 18446744073709551616 ((L.drop k).take (n + 1)) < (G + 1) * vl 18446744073709551616 ys := by
    obtain ⟨m, rfl⟩ : ∃ m, n = m + 1 := ⟨n - 1, by omega⟩
    have h1 := window_top (n := m) (dig_drop dL k) (by simp; omega)
    rw [getD_drop', getD_drop', hu1, show k + m = k + (m + 1 - 1) by omega, hu0] at h1
    have h3 := divisor_low (b := 18446744073709551616) (ys := ys) (n := m) hyl.symm
    rw [show m = m + 1 - 1 by omega, hv] at h3
    exact guess_top h3 (by simpa using h1) hG.symm (by omega)
  obtain ⟨rm, hrm⟩ : ∃ r, (u1 * 18446744073709551616 + u0) % v = r := ⟨_, rfl⟩
  simp only [hG, hrm] at hdv
  clear hrm
  replace hdv := Lib.hid hdv
  replace hG := Lib.hid hG
  replace hGtop := Lib.hid hGtop
  replace hu1 := Lib.hid hu1
  replace hu0 := Lib.hid hu0
  replace hv := Lib.hid hv
  replace hX := Lib.hid hX
  replace hyl := Lib.hid hyl
  replace dL := Lib.hid dL
  replace d2 := Lib.hid d2
  go_enter Tryz.func185, Tryz.ntmps185
  go_wp2_with fail
  go_step3
  go_wp2_with fail
  go_quiet (fail)
  go_wp2_with fail
  go_quiet ((go_at_call 170; exact quiet_of2 ((hdv.out _).mono fun _ _ h => h)))
  rename_i nq0
  obtain ⟨nr, hnr⟩ : ∃ x, nq = x := ⟨_, rfl⟩
  rw [hnr]
  clear hnr nq
  obtain ⟨nq, hnq⟩ : ∃ x, nq0 = x := ⟨_, rfl⟩
  rw [hnq]
  clear hnq nq0
  go_wp2_with fail
  obtain ⟨w0, hw0⟩ : ∃ x, w.drewN (nq + nr) = x := ⟨_, rfl⟩
  have hB' : BlkU (w.drewN (nq + nr)) g 22 L := hB
  have hg' : w.grownBy (w.drewN (nq + nr)) (some g) := only_drawn (only_refl w _) ⟨_, rfl⟩
  rw [hw0] at hB' hg' ⊢
  clear hw0 hB
  go_loopw [7, 8, 46] (fun bo ca iv wr => ∃ (i b1 c2 : Nat) (L1 : List Nat), i ≤ n + 1 ∧ iv = .int .i64 i ∧ bo = .int .u64 b1 ∧ ca = .int .u64 c2 ∧ BlkU wr g 22 L1 ∧ w.grownBy wr (some g) ∧ WinEq L L1 k n ∧ Dig 18446744073709551616 L1 ∧ DSub 18446744073709551616 (L.drop k) (L1.drop k) ys G i b1 c2) (fun _ _ iv _ => n + 1 - (intOf iv).toNat)
  case atStart => exact ⟨0, 0, 0, L, by omega, rfl, rfl, rfl, hB', hg', .refl _ _ _, dL.out, ⟨dig_drop dL.out _, by omega, by omega, fun _ _ => rfl, by simp [vl], by simp⟩⟩
  case round =>
    clear hB' hg'
    obtain ⟨i, b1, ca, L1, hi, rfl, rfl, rfl, hB1, hg1, hW1, dL1, hD⟩ := hrel
    have hL1 := hW1.len
    by_cases hin : i < n + 1
    · have hii : (i : Int) < (n : Int) + 1 := by omega
      obtain ⟨y, hy⟩ : ∃ x, ys.getD i 0 = x := ⟨_, rfl⟩
      obtain ⟨u, hu⟩ : ∃ x, L1.getD (k + i) 0 = x := ⟨_, rfl⟩
      have hy1 : y < 18446744073709551616 := hy ▸ dig_getD (by omega) d2.out i
      have hu1 : u < 18446744073709551616 := hu ▸ dig_getD (by omega) dL1 (k + i)
      have hcell := hB1.cell (k + i) (by omega)
      rw [hu] at hcell
      have hfr := hB1.frozen (k + i)
      have hat := at_any c2 i wr (h2.only hg1 hBg hBw)
      rw [hy, hyl.out] at hat
      replace hat := Lib.hid hat
      go_wp2_with fail
      refine hat.out.mono ?_
      rintro e w1 ⟨rfl, rfl⟩
      go_wp2_with fail
      refine (mul64_any G y hGb hy1 _).mono ?_
      rintro e w1 ⟨rfl, rfl⟩
      obtain ⟨hw1, hw2⟩ := dig_words hGb hy1 hD.ca1
      have ha1 := run_add64_0 (G * y % 18446744073709551616) ca
      have hs1 := run_sub64' u ((G * y % 18446744073709551616 + ca) % 18446744073709551616) b1 hD.bo1
      obtain ⟨hv1, hv2, hv3⟩ := sub_words hu1 (Nat.mod_lt (G * y % 18446744073709551616 + ca) (show 0 < 18446744073709551616 by omega)) hD.bo1
      have hst := hD.step (s := (u + 18446744073709551616 - (G * y % 18446744073709551616 + ca) % 18446744073709551616 - b1) % 18446744073709551616) (by simp; omega) hy (by rw [getD_drop', hu]) hv1 hv2 hw1 hv3 hw2
      rw [← drop_set_in] at hst
      have hset := hB1.set (k + i) ((u + 18446744073709551616 - (G * y % 18446744073709551616 + ca) % 18446744073709551616 - b1) % 18446744073709551616)
      have hwin := hW1.set i ((u + 18446744073709551616 - (G * y % 18446744073709551616 + ca) % 18446744073709551616 - b1) % 18446744073709551616) (by omega)
      have hdl := dig_set dL1 (k + i) hv1
      replace hst := Lib.hid hst
      replace hset := Lib.hid hset
      replace hwin := Lib.hid hwin
      replace hdl := Lib.hid hdl
      clear hw2 hv3 hv2 hv1
      replace hy := Lib.hid hy
      replace hu := Lib.hid hu
      generalize (if u < (G * y % 18446744073709551616 + ca) % 18446744073709551616 + b1 then 1 else 0) = bo at *
      generalize (u + 18446744073709551616 - (G * y % 18446744073709551616 + ca) % 18446744073709551616 - b1) % 18446744073709551616 = s at *
      generalize (G * y % 18446744073709551616 + ca) % 18446744073709551616 = l1 at *
      generalize (G * y % 18446744073709551616 + ca) / 18446744073709551616 = c3 at *
      generalize G * y % 18446744073709551616 = l0 at *
      generalize G * y / 18446744073709551616 = p at *
      have hw1' : (p : Int) + (c3 : Int) < 18446744073709551616 := by omega
      go_wp2
      exact ⟨⟨i + 1, bo, p + c3, _, by omega, by go_num, by go_num, by go_num, hset.out, only_set hg1 _ _, hwin.out, hdl.out, hst.out⟩, by simp [intOf]; omega⟩
    · have hi' : i = n + 1 := by omega
      have hii : ¬(i : Int) < (n : Int) + 1 := by omega
      have hM := (hi' ▸ hD).done hyl.out hGb (by simp; omega) d2.out hGtop.out
      clear hD hGtop hG hdv hun hun1 hv0 hn1 hn3 hn4 hn5 hlt hlt' hu0b hvb hu0 hu1 hv
      replace hi' := Lib.hid hi'
      obtain ⟨P, hP⟩ : ∃ P, 18446744073709551616 ^ (n + 1) = P := ⟨_, rfl⟩
      obtain ⟨X, hXe⟩ : ∃ X, vl 18446744073709551616 ((L.drop k).take (n + 1)) = X := ⟨_, rfl⟩
      obtain ⟨V, hVe⟩ : ∃ V, vl 18446744073709551616 ys = V := ⟨_, rfl⟩
      rw [hXe, hVe, hP] at hM
      replace hP := Lib.hid hP
      replace hVe := Lib.hid hVe
      replace hXe := Lib.hid hXe
      go_wp2_with fail
      go_step3
      go_wp2_with fail
      go_loopw [6, 7] (fun gv bo wr => ∃ (G1 b1 : Nat) (L2 : List Nat), gv = .int .u64 G1 ∧ bo = .int .u64 b1 ∧ G1 < 18446744073709551616 ∧ BlkU wr g 22 L2 ∧ w.grownBy wr (some g) ∧ WinEq L L2 k n ∧ Dig 18446744073709551616 L2 ∧ DMend 18446744073709551616 X V P (vl 18446744073709551616 ((L2.drop k).take (n + 1))) G1 b1) (fun gv _ _ => (intOf gv).toNat)
      case atStart => exact ⟨G, b1, L1, rfl, rfl, hGb, hB1, hg1, hW1, dL1, hM⟩
      case round =>
        clear hB1 hg1 hW1 dL1 hM hL1
        obtain ⟨G1, b3, L2, rfl, rfl, hG1, hB2, hg2, hW2, dL2, hM⟩ := hrel
        rcases (show b3 = 0 ∨ b3 = 1 by have := hM.bo1; omega) with hb3 | hb3
        · subst hb3
          obtain ⟨he1, he2⟩ := hM.done
          replace he1 := Lib.hid he1
          replace he2 := Lib.hid he2
          clear hM
          go_wp2
          rw [Exit.noGoto_ret]
          go_ret
          exact ⟨L2, by rw [hXe.out, hVe.out, ← he1.out]; rfl, hB2, hW2, dL2, by rw [hXe.out, hVe.out, ← he2.out], hg2⟩
        · have hb0 : ¬(b3 : Int) = 0 := by omega
          have hb1 : (b3 : Int) < 2 := by omega
          replace hM := hb3 ▸ hM
          have hGp := dmend_pos hM
          replace hb3 := Lib.hid hb3
          have hGi : 1 ≤ (G1 : Int) := by omega
          have hGi2 : (G1 : Int) - 1 < 18446744073709551616 := by omega
          have hL2 := hW2.len
          replace hM := Lib.hid hM
          go_wp2_with fail
          clear hb0
          obtain ⟨bb, hbb⟩ : ∃ bb, ((b3 : Int) == 0) = bb := ⟨_, rfl⟩
          rw [hbb]
          clear hbb
          go_loopw [8, 86] (fun cv iv wr => ∃ (i c3 : Nat) (L3 : List Nat), i ≤ n + 1 ∧ iv = .int .i64 i ∧ cv = .int .u64 c3 ∧ BlkU wr g 22 L3 ∧ w.grownBy wr (some g) ∧ WinEq L L3 k n ∧ Dig 18446744073709551616 L3 ∧ DAdd 18446744073709551616 (L2.drop k) (L3.drop k) ys i c3) (fun _ iv _ => n + 1 - (intOf iv).toNat)
          case atStart => exact ⟨0, 0, L2, by omega, rfl, rfl, hB2, hg2, hW2, dL2, ⟨dig_drop dL2 _, by omega, fun _ _ => rfl, by simp [vl]⟩⟩
          case round =>
            clear hB2 hg2 hW2
            obtain ⟨j, c3, L3, hj, rfl, rfl, hB3, hg3, hW3, dL3, hD⟩ := hrel
            have hL3 := hW3.len
            by_cases hjn : j < n + 1
            · have hjj : (j : Int) < (n : Int) + 1 := by omega
              obtain ⟨y, hy⟩ : ∃ x, ys.getD j 0 = x := ⟨_, rfl⟩
              obtain ⟨u, hu⟩ : ∃ x, L3.getD (k + j) 0 = x := ⟨_, rfl⟩
              have hy1 : y < 18446744073709551616 := hy ▸ dig_getD (by omega) d2.out j
              have hu1 : u < 18446744073709551616 := hu ▸ dig_getD (by omega) dL3 (k + j)
              have hcell := hB3.cell (k + j) (by omega)
              rw [hu] at hcell
              have hfr := hB3.frozen (k + j)
              have hat := at_any c2 j wr.drew ((h2.only hg3 hBg hBw).drewN 1)
              rw [hy, hyl.out] at hat
              replace hat := Lib.hid hat
              have ha1 := run_add64 u y c3 hD.c1
              obtain ⟨hv1, hv2, hv3⟩ := add_words hu1 hy1 hD.c1
              have hst := hD.step (s := (u + y + c3) % 18446744073709551616) (by simp; omega) hy (by rw [getD_drop', hu]) hv1 hv2 hv3
              rw [← drop_set_in] at hst
              have hset := (hB3.set (k + j) ((u + y + c3) % 18446744073709551616)).drew
              have hgs := only_drawn (only_set hg3 (k + j) (.int .u64 (((u + y + c3) % 18446744073709551616 : Nat) : Int))) ((Drawn.refl _).drewN 1)
              have hwin := hW3.set j ((u + y + c3) % 18446744073709551616) (by omega)
              have hdl := dig_set dL3 (k + j) hv1
              clear hv3 hv2 hv1
              replace hy := Lib.hid hy
              replace hu := Lib.hid hu
              generalize (u + y + c3) % 18446744073709551616 = s at *
              generalize (u + y + c3) / 18446744073709551616 = c4 at *
              replace hst := Lib.hid hst
              replace hset := Lib.hid hset
              replace hgs := Lib.hid hgs
              replace hwin := Lib.hid hwin
              replace hdl := Lib.hid hdl
              go_wp2
              go_region_with (go_at_call 106; refine hat.out.mono ?_; rintro e w1 ⟨rfl, rfl⟩)
              all_goals go_wp2
              all_goals exact ⟨⟨j + 1, c4, _, by omega, by go_num, by go_num, hset.out, hgs.out, hwin.out, hdl.out, hst.out⟩, by simp [intOf]; omega⟩
            · have hj' : j = n + 1 := by omega
              have hjj : ¬(j : Int) < (n : Int) + 1 := by omega
              obtain ⟨hq1, hq2⟩ := (hj' ▸ hD).done hyl.out (by simp; omega)
              rw [hP.out, hVe.out] at hq1
              rw [hP.out] at hq2
              obtain ⟨-, hst⟩ := hM.out.step hq1 hq2 hD.c1
              have hc1 : (c3 : Int) ≤ 1 := by have := hD.c1; omega
              have hcb : (c3 : Int) ≤ (b3 : Int) := by have := hD.c1; have := hb3.out; omega
              have hc0 : (b3 : Int) - c3 = ((1 - c3 : Nat) : Int) := by have := hD.c1; have := hb3.out; omega
              have hg0 : (G1 : Int) - 1 = ((G1 - 1 : Nat) : Int) := by omega
              clear hq1 hq2 hD
              replace hst := Lib.hid hst
              replace hj' := Lib.hid hj'
              replace hc0 := Lib.hid hc0
              replace hg0 := Lib.hid hg0
              go_wp2
              exact ⟨⟨G1 - 1, 1 - c3, L3, by rw [← hg0.out], by rw [← hc0.out], by omega, hB3, hg3, hW3, dL3, hst.out⟩, by simp [intOf]; omega⟩
set_option maxRecDepth 100000 in
set_option maxHeartbeats 1000000 in
theorem digit_ge {g k c c2 n : Nat} {B : Nat} {A2 : Option Addr} {L ys : List Nat} (w : World) (hB : BlkU w g 22 L) (hk : k + n + 1 ≤ L.length) (h2 : RdU w B A2 ys) (hBg : B ≤ g) (hyl : ys.length = n) (hn : 0 < n) (hn2 : L.length ≤ 274877906944)
    (dL : Dig 18446744073709551616 L) (d2 : Dig 18446744073709551616 ys) (hX : vl 18446744073709551616 ((L.drop k).take (n + 1)) < vl 18446744073709551616 ys * 18446744073709551616) (hlt : ¬L.getD (k + n) 0 < ys.getD (n - 1) 0) :
    Calls Tryz.prog 185 #[.slice (some ⟨g, k, none⟩) (n + 1) c, .slice A2 n c2] w (DigitR w g k n L (vl 18446744073709551616 ((L.drop k).take (n + 1))) (vl 18446744073709551616 ys)) := by
  have hBw : B ≤ w.heap.size := Nat.le_trans hBg (Nat.le_of_lt hB.lt)
  obtain ⟨b2, o2, rfl, hb2, hcv⟩ := h2.at (i := n - 1) (by omega)
  have hv0 := hcv (n - 1) (by omega)
  clear hcv
  have hun := hB.cell (k + n) (by omega)
  have hn0 : (n : Int) < ((n + 1 : Nat) : Int) := by omega
  have hn1 : (n : Int) - 1 < (n : Int) := by omega
  have hn3 : (n : Int) - 1 < ((n + 1 : Nat) : Int) := by omega
  have hn4 : ((n : Int) - 1).toNat = n - 1 := by omega
  have hn5 : 0 ≤ (n : Int) - 1 := by omega
  obtain ⟨u1, hu1⟩ : ∃ x, L.getD (k + n) 0 = x := ⟨_, rfl⟩
  obtain ⟨v, hv⟩ : ∃ x, ys.getD (n - 1) 0 = x := ⟨_, rfl⟩
  rw [hu1] at hun hlt
  rw [hv] at hv0 hlt
  have hlt' : ¬(u1 : Int) < (v : Int) := by omega
  obtain ⟨G, hGe⟩ : ∃ G : Nat, (18446744073709551615 : Int) = (G : Int) := ⟨18446744073709551615, rfl⟩
  have hGb : G < 18446744073709551616 := by omega
  have hGtop : vl 18446744073709551616 ((L.drop k).take (n + 1)) < (G + 1) * vl 18446744073709551616 ys := by
    rw [show G + 1 = 18446744073709551616 by omega, Nat.mul_comm]; exact hX
  have hun1 := True.intro
  have hG := True.intro
  have hdv := True.intro
  have hu0b := True.intro
  have hvb := True.intro
  have hu0 := True.intro
  replace hGe := Lib.hid hGe
  replace hGtop := Lib.hid hGtop
  replace hu1 := Lib.hid hu1
  replace hv := Lib.hid hv
  replace hX := Lib.hid hX
  replace hyl := Lib.hid hyl
  replace dL := Lib.hid dL
  replace d2 := Lib.hid d2
  go_enter Tryz.func185, Tryz.ntmps185
  go_wp2_with fail
  go_step3
  go_wp2_with fail
  go_quiet (fail)
  go_wp2_with fail
  rw [hGe.out]
  obtain ⟨w0, hw0⟩ : ∃ x, w.drewN nq = x := ⟨_, rfl⟩
  have hB' : BlkU (w.drewN nq) g 22 L := hB
  have hg' : w.grownBy (w.drewN nq) (some g) := only_drawn (only_refl w _) ⟨_, rfl⟩
  rw [hw0] at hB' hg' ⊢
  clear hw0 hB
  go_loopw [7, 8, 46] (fun bo ca iv wr => ∃ (i b1 c2 : Nat) (L1 : List Nat), i ≤ n + 1 ∧ iv = .int .i64 i ∧ bo = .int .u64 b1 ∧ ca = .int .u64 c2 ∧ BlkU wr g 22 L1 ∧ w.grownBy wr (some g) ∧ WinEq L L1 k n ∧ Dig 18446744073709551616 L1 ∧ DSub 18446744073709551616 (L.drop k) (L1.drop k) ys G i b1 c2) (fun _ _ iv _ => n + 1 - (intOf iv).toNat)
  case atStart => exact ⟨0, 0, 0, L, by omega, rfl, rfl, rfl, hB', hg', .refl _ _ _, dL.out, ⟨dig_drop dL.out _, by omega, by omega, fun _ _ => rfl, by simp [vl], by simp⟩⟩
  case round =>
    clear hB' hg'
    obtain ⟨i, b1, ca, L1, hi, rfl, rfl, rfl, hB1, hg1, hW1, dL1, hD⟩ := hrel
    have hL1 := hW1.len
    by_cases hin : i < n + 1
    · have hii : (i : Int) < (n : Int) + 1 := by omega
      obtain ⟨y, hy⟩ : ∃ x, ys.getD i 0 = x := ⟨_, rfl⟩
      obtain ⟨u, hu⟩ : ∃ x, L1.getD (k + i) 0 = x := ⟨_, rfl⟩
      have hy1 : y < 18446744073709551616 := hy ▸ dig_getD (by omega) d2.out i
      have hu1 : u < 18446744073709551616 := hu ▸ dig_getD (by omega) dL1 (k + i)
      have hcell := hB1.cell (k + i) (by omega)
      rw [hu] at hcell
      have hfr := hB1.frozen (k + i)
      have hat := at_any c2 i wr (h2.only hg1 hBg hBw)
      rw [hy, hyl.out] at hat
      replace hat := Lib.hid hat
      go_wp2_with fail
      refine hat.out.mono ?_
      rintro e w1 ⟨rfl, rfl⟩
      go_wp2_with fail
      refine (mul64_any G y hGb hy1 _).mono ?_
      rintro e w1 ⟨rfl, rfl⟩
      obtain ⟨hw1, hw2⟩ := dig_words hGb hy1 hD.ca1
      have ha1 := run_add64_0 (G * y % 18446744073709551616) ca
      have hs1 := run_sub64' u ((G * y % 18446744073709551616 + ca) % 18446744073709551616) b1 hD.bo1
      obtain ⟨hv1, hv2, hv3⟩ := sub_words hu1 (Nat.mod_lt (G * y % 18446744073709551616 + ca) (show 0 < 18446744073709551616 by omega)) hD.bo1
      have hst := hD.step (s := (u + 18446744073709551616 - (G * y % 18446744073709551616 + ca) % 18446744073709551616 - b1) % 18446744073709551616) (by simp; omega) hy (by rw [getD_drop', hu]) hv1 hv2 hw1 hv3 hw2
      rw [← drop_set_in] at hst
      have hset := hB1.set (k + i) ((u + 18446744073709551616 - (G * y % 18446744073709551616 + ca) % 18446744073709551616 - b1) % 18446744073709551616)
      have hwin := hW1.set i ((u + 18446744073709551616 - (G * y % 18446744073709551616 + ca) % 18446744073709551616 - b1) % 18446744073709551616) (by omega)
      have hdl := dig_set dL1 (k + i) hv1
      replace hst := Lib.hid hst
      replace hset := Lib.hid hset
      replace hwin := Lib.hid hwin
      replace hdl := Lib.hid hdl
      clear hw2 hv3 hv2 hv1
      replace hy := Lib.hid hy
      replace hu := Lib.hid hu
      generalize (if u < (G * y % 18446744073709551616 + ca) % 18446744073709551616 + b1 then 1 else 0) = bo at *
      generalize (u + 18446744073709551616 - (G * y % 18446744073709551616 + ca) % 18446744073709551616 - b1) % 18446744073709551616 = s at *
      generalize (G * y % 18446744073709551616 + ca) % 18446744073709551616 = l1 at *
      generalize (G * y % 18446744073709551616 + ca) / 18446744073709551616 = c3 at *
      generalize G * y % 18446744073709551616 = l0 at *
      generalize G * y / 18446744073709551616 = p at *
      have hw1' : (p : Int) + (c3 : Int) < 18446744073709551616 := by omega
      go_wp2
      exact ⟨⟨i + 1, bo, p + c3, _, by omega, by go_num, by go_num, by go_num, hset.out, only_set hg1 _ _, hwin.out, hdl.out, hst.out⟩, by simp [intOf]; omega⟩
    · have hi' : i = n + 1 := by omega
      have hii : ¬(i : Int) < (n : Int) + 1 := by omega
      have hM := (hi' ▸ hD).done hyl.out hGb (by simp; omega) d2.out hGtop.out
      clear hD hGtop hG hdv hun hun1 hv0 hn1 hn3 hn4 hn5 hlt hlt' hu0b hvb hu0 hu1 hv
      replace hi' := Lib.hid hi'
      obtain ⟨P, hP⟩ : ∃ P, 18446744073709551616 ^ (n + 1) = P := ⟨_, rfl⟩
      obtain ⟨X, hXe⟩ : ∃ X, vl 18446744073709551616 ((L.drop k).take (n + 1)) = X := ⟨_, rfl⟩
      obtain ⟨V, hVe⟩ : ∃ V, vl 18446744073709551616 ys = V := ⟨_, rfl⟩
      rw [hXe, hVe, hP] at hM
      replace hP := Lib.hid hP
      replace hVe := Lib.hid hVe
      replace hXe := Lib.hid hXe
      go_wp2_with fail
      go_step3
      go_wp2_with fail
      go_loopw [6, 7] (fun gv bo wr => ∃ (G1 b1 : Nat) (L2 : List Nat), gv = .int .u64 G1 ∧ bo = .int .u64 b1 ∧ G1 < 18446744073709551616 ∧ BlkU wr g 22 L2 ∧ w.grownBy wr (some g) ∧ WinEq L L2 k n ∧ Dig 18446744073709551616 L2 ∧ DMend 18446744073709551616 X V P (vl 18446744073709551616 ((L2.drop k).take (n + 1))) G1 b1) (fun gv _ _ => (intOf gv).toNat)
      case atStart => exact ⟨G, b1, L1, rfl, rfl, hGb, hB1, hg1, hW1, dL1, hM⟩
      case round =>
        clear hB1 hg1 hW1 dL1 hM hL1
        obtain ⟨G1, b3, L2, rfl, rfl, hG1, hB2, hg2, hW2, dL2, hM⟩ := hrel
        rcases (show b3 = 0 ∨ b3 = 1 by have := hM.bo1; omega) with hb3 | hb3
        · subst hb3
          obtain ⟨he1, he2⟩ := hM.done
          replace he1 := Lib.hid he1
          replace he2 := Lib.hid he2
          clear hM
          go_wp2
          rw [Exit.noGoto_ret]
          go_ret
          exact ⟨L2, by rw [hXe.out, hVe.out, ← he1.out]; rfl, hB2, hW2, dL2, by rw [hXe.out, hVe.out, ← he2.out], hg2⟩
        · have hb0 : ¬(b3 : Int) = 0 := by omega
          have hb1 : (b3 : Int) < 2 := by omega
          replace hM := hb3 ▸ hM
          have hGp := dmend_pos hM
          replace hb3 := Lib.hid hb3
          have hGi : 1 ≤ (G1 : Int) := by omega
          have hGi2 : (G1 : Int) - 1 < 18446744073709551616 := by omega
          have hL2 := hW2.len
          replace hM := Lib.hid hM
          go_wp2_with fail
          clear hb0
          obtain ⟨bb, hbb⟩ : ∃ bb, ((b3 : Int) == 0) = bb := ⟨_, rfl⟩
          rw [hbb]
          clear hbb
          go_loopw [8, 86] (fun cv iv wr => ∃ (i c3 : Nat) (L3 : List Nat), i ≤ n + 1 ∧ iv = .int .i64 i ∧ cv = .int .u64 c3 ∧ BlkU wr g 22 L3 ∧ w.grownBy wr (some g) ∧ WinEq L L3 k n ∧ Dig 18446744073709551616 L3 ∧ DAdd 18446744073709551616 (L2.drop k) (L3.drop k) ys i c3) (fun _ iv _ => n + 1 - (intOf iv).toNat)
          case atStart => exact ⟨0, 0, L2, by omega, rfl, rfl, hB2, hg2, hW2, dL2, ⟨dig_drop dL2 _, by omega, fun _ _ => rfl, by simp [vl]⟩⟩
          case round =>
            clear hB2 hg2 hW2
            obtain ⟨j, c3, L3, hj, rfl, rfl, hB3, hg3, hW3, dL3, hD⟩ := hrel
            have hL3 := hW3.len
            by_cases hjn : j < n + 1
            · have hjj : (j : Int) < (n : Int) + 1 := by omega
              obtain ⟨y, hy⟩ : ∃ x, ys.getD j 0 = x := ⟨_, rfl⟩
              obtain ⟨u, hu⟩ : ∃ x, L3.getD (k + j) 0 = x := ⟨_, rfl⟩
              have hy1 : y < 18446744073709551616 := hy ▸ dig_getD (by omega) d2.out j
              have hu1 : u < 18446744073709551616 := hu ▸ dig_getD (by omega) dL3 (k + j)
              have hcell := hB3.cell (k + j) (by omega)
              rw [hu] at hcell
              have hfr := hB3.frozen (k + j)
              have hat := at_any c2 j wr.drew ((h2.only hg3 hBg hBw).drewN 1)
              rw [hy, hyl.out] at hat
              replace hat := Lib.hid hat
              have ha1 := run_add64 u y c3 hD.c1
              obtain ⟨hv1, hv2, hv3⟩ := add_words hu1 hy1 hD.c1
              have hst := hD.step (s := (u + y + c3) % 18446744073709551616) (by simp; omega) hy (by rw [getD_drop', hu]) hv1 hv2 hv3
              rw [← drop_set_in] at hst
              have hset := (hB3.set (k + j) ((u + y + c3) % 18446744073709551616)).drew
              have hgs := only_drawn (only_set hg3 (k + j) (.int .u64 (((u + y + c3) % 18446744073709551616 : Nat) : Int))) ((Drawn.refl _).drewN 1)
              have hwin := hW3.set j ((u + y + c3) % 18446744073709551616) (by omega)
              have hdl := dig_set dL3 (k + j) hv1
              clear hv3 hv2 hv1
              replace hy := Lib.hid hy
              replace hu := Lib.hid hu
              generalize (u + y + c3) % 18446744073709551616 = s at *
              generalize (u + y + c3) / 18446744073709551616 = c4 at *
              replace hst := Lib.hid hst
              replace hset := Lib.hid hset
              replace hgs := Lib.hid hgs
              replace hwin := Lib.hid hwin
              replace hdl := Lib.hid hdl
              go_wp2
              go_region_with (go_at_call 106; refine hat.out.mono ?_; rintro e w1 ⟨rfl, rfl⟩)
              all_goals go_wp2
              all_goals exact ⟨⟨j + 1, c4, _, by omega, by go_num, by go_num, hset.out, hgs.out, hwin.out, hdl.out, hst.out⟩, by simp [intOf]; omega⟩
            · have hj' : j = n + 1 := by omega
              have hjj : ¬(j : Int) < (n : Int) + 1 := by omega
              obtain ⟨hq1, hq2⟩ := (hj' ▸ hD).done hyl.out (by simp; omega)
              rw [hP.out, hVe.out] at hq1
              rw [hP.out] at hq2
              obtain ⟨-, hst⟩ := hM.out.step hq1 hq2 hD.c1
              have hc1 : (c3 : Int) ≤ 1 := by have := hD.c1; omega
              have hcb : (c3 : Int) ≤ (b3 : Int) := by have := hD.c1; have := hb3.out; omega
              have hc0 : (b3 : Int) - c3 = ((1 - c3 : Nat) : Int) := by have := hD.c1; have := hb3.out; omega
              have hg0 : (G1 : Int) - 1 = ((G1 - 1 : Nat) : Int) := by omega
              clear hq1 hq2 hD
              replace hst := Lib.hid hst
              replace hj' := Lib.hid hj'
              replace hc0 := Lib.hid hc0
              replace hg0 := Lib.hid hg0
              go_wp2
              exact ⟨⟨G1 - 1, 1 - c3, L3, by rw [← hg0.out], by rw [← hc0.out], by omega, hB3, hg3, hW3, dL3, hst.out⟩, by simp [intOf]; omega⟩
theorem digit_any {g k c c2 n : Nat} {B : Nat} {A2 : Option Addr} {L ys : List Nat} (w : World) (hB : BlkU w g 22 L) (hk : k + n + 1 ≤ L.length) (h2 : RdU w B A2 ys) (hBg : B ≤ g) (hyl : ys.length = n) (hn : 0 < n) (hn2 : L.length ≤ 274877906944)
    (dL : Dig 18446744073709551616 L) (d2 : Dig 18446744073709551616 ys) (hX : vl 18446744073709551616 ((L.drop k).take (n + 1)) < vl 18446744073709551616 ys * 18446744073709551616) :
    Calls Tryz.prog 185 #[.slice (some ⟨g, k, none⟩) (n + 1) c, .slice A2 n c2] w (DigitR w g k n L (vl 18446744073709551616 ((L.drop k).take (n + 1))) (vl 18446744073709551616 ys)) := by
  by_cases h : L.getD (k + n) 0 < ys.getD (n - 1) 0
  · exact digit_lt w hB hk h2 hBg hyl hn hn2 dL d2 hX h
  · exact digit_ge w hB hk h2 hBg hyl hn hn2 dL d2 hX h
end Go.Proofs.YtncfbleeidjflaaGreatDoor
namespace Go.Proofs.YtncfbleeidjflaaGreatDoor
open Go.RowKit Go.Cal
/-- As GotU, but of the room nothing is known but that the words fit. -/
structure GotW (w : World) (base : Nat) (A : Option Addr) (c : Nat) (zs : List Nat) : Prop where
  rd : RdU w w.heap.size A zs
  cap : zs.length ≤ c
  small : c ≤ maxLen
  own : zs = [] ∨ ∃ b off, A = some ⟨b, off, none⟩ ∧ base ≤ b ∧ ∀ i, i < zs.length → w.frozen? ⟨b, off + i, none⟩ = false
theorem gotW_base {w : World} {base base' : Nat} {A : Option Addr} {c : Nat} {zs : List Nat} (h : GotW w base A c zs) (hb : base' ≤ base) : GotW w base' A c zs :=
  ⟨h.rd, h.cap, h.small, h.own.imp id fun ⟨b, off, e, h1, h2⟩ => ⟨b, off, e, by omega, h2⟩⟩
theorem own_base {w : World} {b b' : Nat} {e : TypeId} {n size : Nat} {v : Value} {xs : List Value} (h : w.ownsRow b e size v n xs) (hb : b' ≤ b) : w.ownsRow b' e size v n xs :=
  ⟨h.1, h.2.imp id fun ⟨g, cap, cur, h1, h2, h3⟩ => ⟨g, cap, cur, h1, by omega, h3⟩⟩
theorem blkU_of_own {w : World} {base : Nat} {v : Value} {xs : List Nat} (h : w.ownsRow base 22 1 v xs.length (lU xs)) (h0 : 0 < xs.length) :
    ∃ g c, v = .slice (some ⟨g, 0, none⟩) xs.length c ∧ BlkU w g 22 xs ∧ base ≤ g ∧ xs.length ≤ c := by
  obtain ⟨_, ⟨_, h1⟩ | ⟨g, cap, cur, rfl, hg, hw, hn, hm, hs, ht⟩⟩ := h
  · omega
  · refine ⟨g, cap, rfl, ⟨cur, hw, fun i hi => ?_⟩, hg, hn⟩
    rw [← Array.getElem?_toList, ← lU_at xs i hi, ← ht, List.getElem?_take_of_lt (by omega)]
theorem lU_len (xs : List Nat) : (lU xs).length = xs.length := by simp [lU]
theorem lU_get (xs : List Nat) (j : Nat) (h : j < xs.length) : (lU xs)[j]? = some (.int .u64 ((xs.getD j 0 : Nat) : Int)) := by
  simp [lU, List.getD_eq_getElem?_getD, h]
theorem gotW_of_own {w : World} {base : Nat} {v : Value} {xs : List Nat} (h : w.ownsRow base 22 1 v xs.length (lU xs)) (h0 : 0 < xs.length) :
    ∃ g c, v = .slice (some ⟨g, 0, none⟩) xs.length c ∧ GotW w base (some ⟨g, 0, none⟩) c xs := by
  obtain ⟨_, ⟨_, h1⟩ | ⟨g, cap, cur, rfl, hg, hw, hn, hm, hs, ht⟩⟩ := h
  · omega
  · have hlt := (Array.getElem?_eq_some_iff.1 hw).1
    refine ⟨g, cap, rfl, ⟨⟨.inr ⟨g, 0, rfl, hlt⟩, fun b off e j hj => ?_⟩, hn, hm, .inr ⟨g, 0, rfl, hg, fun j hj => ?_⟩⟩⟩
    · injection e with e
      injection e with e1 e2
      subst e1; subst e2
      have e3 : cur.toList[j]? = some (.int .u64 ((xs.getD j 0 : Nat) : Int)) := by
        rw [← lU_get xs j hj, ← ht, List.getElem?_take_of_lt (by omega)]
      simp [World.cell?, hw, ← Array.getElem?_toList, e3]
    · simp [World.frozen?, hw]
set_option maxRecDepth 100000 in
set_option maxHeartbeats 1000000 in
theorem clone_some {b off : Nat} {xs : List Nat} (c : Nat) (w : World) (h : RdU w w.heap.size (some ⟨b, off, none⟩) xs) (hn : xs.length ≤ 274877906944) (h0 : 0 < xs.length) :
    Calls Tryz.prog 111 #[.slice (some ⟨b, off, none⟩) xs.length c] w fun e w' => ∃ v, e = .returned v ∧ w'.ownsRow w.heap.size 22 1 v xs.length (lU xs) ∧ Below w.heap.size w w' := by
  obtain ⟨i0, hi, hz0, hz1, hz2⟩ := info_parts info_u64
  have hne : ∀ (a : Addr) (n c : Nat) (w : World), (binOp .eql 33 (.slice (some a) n c) (.slice none 0 0)).run Tryz.prog w = .ok (.bool false) w := fun _ _ _ _ => by kernel_rfl
  go_enter Tryz.func111, Tryz.ntmps111
  go_wp2_with (at_builtin; refine wpList_append_grows _ rfl _ _ 33 rfl 22 i0 (.int .u64 0) 1 8 under_nat hi hz0 hz1 hz2 rfl (by decide) _ 0 0 [] rfl (fun h => by cases h) rfl ?hold ⟨b, off, none⟩ xs.length c (lU xs) rfl ?c1 ?c2 ?c3 ?c4 ?c5 ?c6 ?_)
  case hold => intro _ _ j u hj; simp at hj
  case c1 => rw [lU_len, Nat.mul_one]
  case c2 =>
    intro j u hj
    rw [Addr.add_lit]
    rcases Nat.lt_or_ge j xs.length with hlt | hge
    · rw [lU_get xs j hlt] at hj
      injection hj with hj
      subst hj
      obtain ⟨b', o', e, hb', hc⟩ := h.at hlt
      injection e with e
      injection e with e1 e2
      subst e1; subst e2
      rw [World.cell?_alloc_past _ _ _ hb']
      exact hc j hlt
    · rw [List.getElem?_eq_none (by rw [lU_len]; exact hge)] at hj
      cases hj
  case c3 =>
    intro u hu
    simp only [lU, List.mem_map] at hu
    obtain ⟨x, _, rfl⟩ := hu
    rfl
  case c4 => omega
  case c5 => unfold maxLen; omega
  case c6 => omega
  intro v' w1 hown hgr
  clear hne
  go_wp2
  go_ret
  exact ⟨v', rfl, own_base hown (by omega), ((Below.refl _ _).alloc (Nat.le_refl _) _).grown hgr (by simp) (fun j hj => by cases hj)⟩
set_option maxRecDepth 100000 in
set_option maxHeartbeats 1000000 in
theorem clone_none (w : World) : Calls Tryz.prog 111 #[.slice none 0 0] w fun e w' => e = .returned (.slice none 0 0) ∧ w = w' := by
  have hne : ∀ (w : World), (binOp .eql 33 (.slice none 0 0) (.slice none 0 0)).run Tryz.prog w = .ok (.bool true) w := fun _ => by kernel_rfl
  go_enter Tryz.func111, Tryz.ntmps111
  go_wp2
  go_ret
  exact ⟨rfl, rfl⟩
set_option maxRecDepth 100000 in
set_option maxHeartbeats 1000000 in
theorem clone_empty (a : Addr) (c : Nat) (w : World) : Calls Tryz.prog 111 #[.slice (some a) 0 c] w fun e w' => ∃ g, e = .returned (.slice (some ⟨g, 0, none⟩) 0 0) ∧ Below w.heap.size w w' := by
  obtain ⟨i0, hi, hz0, hz1, hz2⟩ := info_parts info_u64
  have hne : ∀ (a : Addr) (n c : Nat) (w : World), (binOp .eql 33 (.slice (some a) n c) (.slice none 0 0)).run Tryz.prog w = .ok (.bool false) w := fun _ _ _ _ => by kernel_rfl
  go_enter Tryz.func111, Tryz.ntmps111
  go_wp2_with (at_builtin; refine wpList_append_arg _ rfl _ _ 33 rfl 22 i0 (.int .u64 0) 1 8 under_nat hi hz0 hz1 hz2 rfl (by decide) w.heap.size 0 0 0 [] rfl rfl (fun j u hj => by simp at hj) a 0 c [] rfl rfl (fun j u hj => by simp at hj) (fun u hu => by simp at hu) (fun _ j hj => by simp at hj) (by unfold maxLen; omega) (by omega) (fun _ => ?_) (fun h => by omega))
  clear hne
  go_wp2
  go_ret
  exact ⟨_, rfl, (Below.refl _ _).alloc (Nat.le_refl _) _⟩
theorem clone_any {A : Option Addr} {xs : List Nat} (c : Nat) (w : World) (h : RdU w w.heap.size A xs) (hn : xs.length ≤ 274877906944) (hA : A = none → c = 0) :
    Calls Tryz.prog 111 #[.slice A xs.length c] w fun e w' => ∃ A' c', e = .returned (.slice A' xs.length c') ∧ GotW w' w.heap.size A' c' xs ∧ Below w.heap.size w w' := by
  rcases Nat.eq_zero_or_pos xs.length with h0 | h0
  · obtain rfl := List.eq_nil_of_length_eq_zero h0
    cases A with
    | none =>
      rw [hA rfl]
      exact (clone_none w).mono fun e w' ⟨he, hw⟩ => ⟨none, 0, he, ⟨.nil, Nat.le_refl _, by omega, .inl rfl⟩, hw ▸ Below.refl _ _⟩
    | some a => exact (clone_empty a c w).mono fun e w' ⟨g, he, hw⟩ => ⟨_, 0, he, ⟨.nil, Nat.le_refl _, by omega, .inl rfl⟩, hw⟩
  · obtain ⟨b, off, rfl, _⟩ := h.at h0
    refine (clone_some c w h hn h0).mono fun e w' ⟨v, he, ho, hb⟩ => ?_
    obtain ⟨g, c', rfl, hg⟩ := gotW_of_own ho h0
    exact ⟨_, c', he, hg, hb⟩
/-- The call returns a slice of its own that reads as the number N; of its room nothing is known. -/
def RetW (w : World) (N : Nat) (e : Ending) (w' : World) : Prop :=
  ∃ A c zs, e = .returned (.slice A (zs : List Nat).length c) ∧ GotW w' w.heap.size A c zs ∧ Nrm zs N ∧ Below w.heap.size w w'
set_option maxHeartbeats 1000000 in
theorem norm_any {A : Option Addr} {xs : List Nat} (c : Nat) (w : World) (h : RdU w w.heap.size A xs) (hc : xs.length ≤ c) (hn : xs.length ≤ 274877906944) (d : Dig 18446744073709551616 xs) :
    Calls Tryz.prog 43 #[.slice A xs.length c] w (RetW w (vl 18446744073709551616 xs)) := by
  go_enter Tryz.func43, Tryz.ntmps43
  go_wp2_with fail
  refine (trim_nat _ _ h hc (by omega) d).mono ?_
  rintro e w1 ⟨⟨zs1, rfl, r1, t1, e1, v1, l1⟩, rfl⟩
  go_wp2_with fail
  refine (clone_any zs1.length w r1 (by omega) (fun e => ?_)).mono ?_
  · subst e
    rcases r1.place with h0 | ⟨_, _, h0, _⟩
    · rw [h0]; rfl
    · cases h0
  rintro e w1 ⟨A', c', rfl, hg, hb⟩
  go_wp2
  go_ret
  exact ⟨A', c', zs1, rfl, hg, ⟨e1, t1, v1⟩, hb⟩
set_option maxHeartbeats 1000000 in
theorem of_any (n : Nat) (hn : n < 18446744073709551616) (w : World) : Calls Tryz.prog 96 #[.int .u64 n] w (RetW w n) := by
  have hB := BlkU.lit w 22 [n] #[.int .u64 n] rfl
  have hrd := (hB.rd 0 1 (by simp)).more (B' := (w.alloc (.cells #[.int .u64 (n : Int)] 22)).heap.size) (by simp)
  have hd : Dig 18446744073709551616 [n] := fun x hx => by simp at hx; omega
  have hnorm := norm_any 1 _ hrd (by simp) (by simp) hd
  have hv : vl 18446744073709551616 [n] = n := by simp [vl]
  simp only [List.drop_zero, List.take_succ_cons, List.take_zero] at hnorm
  rw [hv] at hnorm
  replace hnorm := Lib.hid hnorm
  clear hrd hB hd hv
  go_enter Tryz.func96, Tryz.ntmps96
  go_wp2_with fail
  refine hnorm.out.mono ?_
  rintro e w1 ⟨A', c', zs, rfl, hg, hz, hb⟩
  go_wp2
  go_ret
  exact ⟨A', c', zs, rfl, gotW_base hg (by simp), hz, chain ((Below.refl _ _).alloc (Nat.le_refl _) _) hb⟩
end Go.Proofs.YtncfbleeidjflaaGreatDoor
