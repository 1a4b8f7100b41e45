/- What the statement wants beyond its base. Conditions: none. -/
import Derived.Test.YtobokaafmcfeaaaGreatDoorSp00
namespace Go.Proofs.YtobokaafmcfeaaaGreatDoor
open Go.RowKit Go.Cal
theorem wide4 {id : Int} (h1 : 1 ≤ id) (h4 : id ≤ 4) : ∃ W : Nat, fW id = (W : Int) ∧ (fW id).toNat = W ∧ 8 ≤ W ∧ W ≤ 64 ∧ 8 * (W / 8) = W ∧ (4 : Int) * 2 ^ id.toNat = (W : Int) ∧ IntKind.u64.wrap (IntKind.u64.wrap (IntKind.u64.wrap ((2 : Int) ^ (W - 1)) * 2) - 1) = ((2 ^ W - 1 : Nat) : Int) := by
  have : id = 1 ∨ id = 2 ∨ id = 3 ∨ id = 4 := by omega
  rcases this with rfl | rfl | rfl | rfl
  · exact ⟨8, by decide⟩
  · exact ⟨16, by decide⟩
  · exact ⟨32, by decide⟩
  · exact ⟨64, by decide⟩
theorem and_full (x W : Nat) (hx : x < 18446744073709551616) (hW : W ≤ 64) : bits .and .u64 (x : Int) ((2 ^ W - 1 : Nat) : Int) = ((x % 2 ^ W : Nat) : Int) := by
  have h2 : 2 ^ W ≤ 2 ^ 64 := Nat.pow_le_pow_right (by decide) hW
  have := bits_and_u64_nat x (2 ^ W - 1) hx (by omega)
  rw [Nat.and_two_pow_sub_one_eq_mod] at this
  exact this
/-- What stands while the last words are told. -/
structure PJ (w : World) (F : Nat → Prop) (g : Nat) (id : Int) (s3 : Nat) (v1 v2 : Value) (A2 A3 A1 : Option Addr) (X : Nat) (O zs : List Nat) (W : World) : Prop where
  bel : Below w.heap.size w W
  b3 : pBlk s3 #[v1, v2] 57 W
  u1 : RdU W W.heap.size A2 O
  u2 : RdU W W.heap.size A3 O
  z1 : RdU W W.heap.size A1 zs
  qu : QuF F g id X W
theorem PJ.keep {w : World} {F : Nat → Prop} {g : Nat} {id : Int} {s3 : Nat} {v1 v2 : Value} {A2 A3 A1 : Option Addr} {X : Nat} {O zs : List Nat} {W W' : World} (h : PJ w F g id s3 v1 v2 A2 A3 A1 X O zs W) (hb : Below W.heap.size W W') : PJ w F g id s3 v1 v2 A2 A3 A1 X O zs W' :=
  ⟨h.bel.trans (hb.mono h.bel.size), pBlk_st _ _ _ _ _ h.b3 hb, pU_st _ _ _ _ h.u1 hb, pU_st _ _ _ _ h.u2 hb, pU_st _ _ _ _ h.z1 hb, h.qu.below hb⟩
theorem act_len (id : Int) (op x y : Nat) (k : Nat) (hk : (fW id).toNat / 8 = k) : (wrB id op x y).length = if op = 1 ∨ op = 2 then 1 + k + k else 1 := by
  unfold wrB
  split
  · rw [List.length_cons, List.length_append, beB_len, beB_len, hk]; omega
  · rfl
set_option maxRecDepth 100000 in
set_option maxHeartbeats 4000000 in
theorem scriptPlays_any (idv : Int) (va : Value) (w : World) (hW : VaW w) (ha : ArgA w va) : Calls Tryz.prog 9 #[.int .i64 idv, va] w fun e w' => e = .returned (.bool true) ∧ Below w.heap.size w w' := by
  obtain ⟨A, n, c, rfl, hnc, hcm, hcell⟩ := ha
  obtain ⟨a, ha, ha3⟩ := and_3 idv
  obtain ⟨id, hid⟩ : ∃ id : Int, 1 + (a : Int) = id := ⟨_, rfl⟩
  have h1 : 1 ≤ id := by omega
  have h4 : id ≤ 4 := by omega
  obtain ⟨W, hW1, hW2, hW3, hW4, hW5, hW6, hmk⟩ := wide4 h1 h4
  obtain ⟨Mk, hMk⟩ : ∃ Mk, 2 ^ W - 1 = Mk := ⟨_, rfl⟩
  have hand := fun x hx => and_full x W hx hW4
  rw [hMk] at hmk hand
  clear hMk
  have hsh := Lib.hid (shown19_any w hW)
  have hnw := Lib.hid fun W (hb : Below w.heap.size w W) => new_q id h1 h4 W (hW.below hb)
  have hbytes : 256 ^ (W / 8) = 2 ^ W := by rw [show (256 : Nat) = 2 ^ 8 by decide, ← Nat.pow_mul, hW5]
  go_enter Tryz.func9, Tryz.ntmps9
  go_wp2_with fail
  refine hsh.out.mono ?_
  rintro e w1 ⟨rfl, hb1⟩
  clear hsh
  go_wp2_with fail
  refine (hnw.out _ hb1).mono ?_
  rintro e w2 ⟨g, rfl, hg, hq, hb2⟩
  clear hnw
  have hgl := hq.lt
  have hB2 := hb1.trans (hb2.mono hb1.size)
  have hS0 : PlS w w2.heap.size g id (.slice none 0 0) (.slice none 0 0) [] 0 [] w2 :=
    ⟨hB2, Nat.le_trans hb1.size hg, hB2.size, hgl, Nat.le_refl _, World.ownsRow_nil _ _ _ _, World.ownsRow_nil _ _ _ _, hq.zero, fun b hb => by cases hb⟩
  clear hb2 hq hg
  go_wp2_with fail
  clear hmk
  go_loopg [10, 11, 12] 100 (fun k pb po pi wr => ∃ (i : Nat) (Bv Ov : Value) (L : List UInt8) (X : Nat) (O : List Nat), pb = Bv ∧ po = Ov ∧ pi = .int .i64 (i : Nat) ∧ i + k = 100 ∧ i ≤ n ∧ PlS w w2.heap.size g id Bv Ov L X O wr ∧ Hid (runP id i 0 [] L = ⟨0, L.length, X, O⟩) ∧ L.length ≤ 17 * i ∧ O.length ≤ i ∧ Hid (X < 2 ^ quS id))
  case atStart => exact ⟨0, _, _, [], 0, [], rfl, rfl, rfl, rfl, Nat.zero_le _, hS0, Lib.hid rfl, by simp, by simp, Lib.hid (Nat.two_pow_pos _)⟩
  case round =>
    obtain ⟨i, Bv, Ov, L, X, O, rfl, rfl, rfl, hik, hin, hS, hrun, hLl, hOl, hX⟩ := hrel
    clear hS0
    by_cases hgo : i < n ∧ i < 100
    · obtain ⟨hi1, hi2⟩ := hgo
      obtain ⟨b0, off, rfl, hb0, o, x0, y0, e0, e1, e2, hx64, hy64⟩ := hcell i hi1
      have hB := hS.below
      have c0 := (hB.cell (p := ⟨b0, off + i * 3, none⟩) hb0).trans e0
      have c1 := (hB.cell (p := ⟨b0, off + i * 3 + 1, none⟩) hb0).trans e1
      have c2 := (hB.cell (p := ⟨b0, off + i * 3 + 2, none⟩) hb0).trans e2
      have hb0r : b0 < wr.heap.size := Nat.lt_of_lt_of_le hb0 hB.size
      have hi1' : (i : Int) < (n : Int) := by omega
      have hi2' : (i : Int) < 100 := by omega
      obtain ⟨m0, hm0, -⟩ := and_low o
      obtain ⟨op, hop⟩ : ∃ op, m0 % 5 = op := ⟨_, rfl⟩
      have hmi : (m0 : Int) % 5 = (op : Int) := by omega
      have hand1 := hand x0 hx64
      have hand2 := hand y0 hy64
      obtain ⟨x, hx⟩ : ∃ x, x0 % 2 ^ W = x := ⟨_, rfl⟩
      obtain ⟨y, hy⟩ : ∃ y, y0 % 2 ^ W = y := ⟨_, rfl⟩
      have hxl : x < 2 ^ W := hx ▸ Nat.mod_lt _ (Nat.two_pow_pos _)
      have hyl : y < 2 ^ W := hy ▸ Nat.mod_lt _ (Nat.two_pow_pos _)
      rw [hx] at hand1
      rw [hy] at hand2
      clear hx hy e0 e1 e2 hand
      have hop5 : op = 0 ∨ op = 1 ∨ op = 2 ∨ op = 3 ∨ op = 4 := by omega
      clear hop
      rcases hop5 with rfl | rfl | rfl | rfl | rfl
      · have hwr := Lib.hid fun W (hb : Below w.heap.size w W) => wr_clear h1 h4 (hW.below hb)
        have hlw : (wrB id 0 0 0).length = 1 := by rw [act_len id 0 0 0 (W / 8) (by rw [hW2])]; rfl
        go_wp2_with fail
        refine (hwr.out _ hS.below).mono ?_
        rintro e w3 ⟨Aw, cw, rfl, how, hbw⟩
        obtain ⟨A5, c5, e5, hr5, -⟩ := read_ownB how rfl
        injection e5 with e51 e52 e53
        subst e51; subst e53
        have hS3 := hS.go hbw
        clear how hbw hwr
        rw [hlw]
        go_wp2_with (at_builtin; refine wpList_appBs rfl _ _ rfl rfl rfl hS3.brow hr5 hlw (by omega) (by omega) hS3.bs ?_; intro A6 n6 c6 w4 ho6 hg6 hp6)
        have hS4 := hS3.appB (M := wrB id 0 0 0) (by rw [hlw]; exact ho6) hg6 hp6
        have hst := fun h1 h2 => step_act (id := id) (X := X) (O := O) (op := 0) (x := 0) (y := 0) (by omega) h1 h2
        clear ho6 hg6 hp6 hS3 hr5
        go_wp2_with fail
        refine (clear_o hS4.qu).mono ?_
        rintro e w5 ⟨rfl, hq5, hm5⟩
        have hS5 := hS4.bits hq5 hm5
        clear hq5 hm5 hS4
        go_wp2_with fail
        go_roundg (gk - 1)
        case measure => omega
        case rel => exact ⟨i + 1, _, _, L ++ wrB id 0 0 0, actX id X 0 0 0, actO id X O 0, rfl, rfl, by simp, by omega, by omega, by simpa [actX, actO] using hS5, Lib.hid (run_snoc i 0 [] L X O _ _ hrun.out (hst (by rw [hW2, hbytes]; exact Nat.two_pow_pos _) (by rw [hW2, hbytes]; exact Nat.two_pow_pos _))), by rw [List.length_append, hlw]; omega, by simp [actO]; omega, Lib.hid (by simp [actX]; exact Nat.two_pow_pos _)⟩
      · have hwr := Lib.hid fun W (hb : Below w.heap.size w W) => wr_add (x := x) (y := y) h1 h4 (hW.below hb) (by rw [hW2, hbytes]; exact hxl) (by rw [hW2, hbytes]; exact hyl)
        have hlw : (wrB id 1 x y).length = 1 + W / 8 + W / 8 := by rw [act_len id 1 x y (W / 8) (by rw [hW2])]; rfl
        go_wp2_with fail
        refine (hwr.out _ hS.below).mono ?_
        rintro e w3 ⟨Aw, cw, rfl, how, hbw⟩
        obtain ⟨A5, c5, e5, hr5, -⟩ := read_ownB how rfl
        injection e5 with e51 e52 e53
        subst e51; subst e53
        have hS3 := hS.go hbw
        clear how hbw hwr
        rw [hlw]
        go_wp2_with (at_builtin; refine wpList_appBs rfl _ _ rfl rfl rfl hS3.brow hr5 hlw (by omega) (by omega) hS3.bs ?_; intro A6 n6 c6 w4 ho6 hg6 hp6)
        have hS4 := hS3.appB (M := wrB id 1 x y) (by rw [hlw]; exact ho6) hg6 hp6
        have hst := fun h1 h2 => step_act (id := id) (X := X) (O := O) (op := 1) (x := x) (y := y) (by omega) h1 h2
        clear ho6 hg6 hp6 hS3 hr5
        have hx8 : x < 18446744073709551616 := Nat.lt_of_lt_of_le hxl (Nat.le_trans (Nat.pow_le_pow_right (by decide) hW4) (by decide))
        have hy8 : y < 18446744073709551616 := Nat.lt_of_lt_of_le hyl (Nat.le_trans (Nat.pow_le_pow_right (by decide) hW4) (by decide))
        have hqc := qadd_o hS4.hF h1 h4 (x : Int) (y : Int) (by omega) (by omega) hX.out hS4.qu (hW.below hS4.below)
        go_wp2_with fail
        refine hqc.mono ?_
        rintro e w5 ⟨rfl, hq5, hm5⟩
        have hS5 := hS4.bits hq5 hm5
        clear hq5 hm5 hS4 hqc
        go_wp2_with fail
        go_roundg (gk - 1)
        case measure => omega
        case rel => exact ⟨i + 1, _, _, L ++ wrB id 1 x y, actX id X 1 x y, actO id X O 1, rfl, rfl, by simp, by omega, by omega, by simpa [actX, actO] using hS5, Lib.hid (run_snoc i 0 [] L X O _ _ hrun.out (hst (by rw [hW2, hbytes]; exact hxl) (by rw [hW2, hbytes]; exact hyl))), by rw [List.length_append, hlw]; omega, by simp [actO]; omega, Lib.hid (by simp [actX]; exact quDo_lt h1 h4 hX.out (by omega) (by omega))⟩
      · have hwr := Lib.hid fun W (hb : Below w.heap.size w W) => wr_sub (x := x) (y := y) h1 h4 (hW.below hb) (by rw [hW2, hbytes]; exact hxl) (by rw [hW2, hbytes]; exact hyl)
        have hlw : (wrB id 2 x y).length = 1 + W / 8 + W / 8 := by rw [act_len id 2 x y (W / 8) (by rw [hW2])]; rfl
        go_wp2_with fail
        refine (hwr.out _ hS.below).mono ?_
        rintro e w3 ⟨Aw, cw, rfl, how, hbw⟩
        obtain ⟨A5, c5, e5, hr5, -⟩ := read_ownB how rfl
        injection e5 with e51 e52 e53
        subst e51; subst e53
        have hS3 := hS.go hbw
        clear how hbw hwr
        rw [hlw]
        go_wp2_with (at_builtin; refine wpList_appBs rfl _ _ rfl rfl rfl hS3.brow hr5 hlw (by omega) (by omega) hS3.bs ?_; intro A6 n6 c6 w4 ho6 hg6 hp6)
        have hS4 := hS3.appB (M := wrB id 2 x y) (by rw [hlw]; exact ho6) hg6 hp6
        have hst := fun h1 h2 => step_act (id := id) (X := X) (O := O) (op := 2) (x := x) (y := y) (by omega) h1 h2
        clear ho6 hg6 hp6 hS3 hr5
        have hx8 : x < 18446744073709551616 := Nat.lt_of_lt_of_le hxl (Nat.le_trans (Nat.pow_le_pow_right (by decide) hW4) (by decide))
        have hy8 : y < 18446744073709551616 := Nat.lt_of_lt_of_le hyl (Nat.le_trans (Nat.pow_le_pow_right (by decide) hW4) (by decide))
        have hqc := qsub_o hS4.hF h1 h4 (x : Int) (y : Int) (by omega) (by omega) hX.out hS4.qu (hW.below hS4.below)
        go_wp2_with fail
        refine hqc.mono ?_
        rintro e w5 ⟨rfl, hq5, hm5⟩
        have hS5 := hS4.bits hq5 hm5
        clear hq5 hm5 hS4 hqc
        go_wp2_with fail
        go_roundg (gk - 1)
        case measure => omega
        case rel => exact ⟨i + 1, _, _, L ++ wrB id 2 x y, actX id X 2 x y, actO id X O 2, rfl, rfl, by simp, by omega, by omega, by simpa [actX, actO] using hS5, Lib.hid (run_snoc i 0 [] L X O _ _ hrun.out (hst (by rw [hW2, hbytes]; exact hxl) (by rw [hW2, hbytes]; exact hyl))), by rw [List.length_append, hlw]; omega, by simp [actO]; omega, Lib.hid (by simp [actX]; exact quDo_lt h1 h4 hX.out (by omega) (by omega))⟩
      · have hwr := Lib.hid fun W (hb : Below w.heap.size w W) => wr_neg h1 h4 (hW.below hb)
        have hlw : (wrB id 3 0 0).length = 1 := by rw [act_len id 3 0 0 (W / 8) (by rw [hW2])]; rfl
        go_wp2_with fail
        refine (hwr.out _ hS.below).mono ?_
        rintro e w3 ⟨Aw, cw, rfl, how, hbw⟩
        obtain ⟨A5, c5, e5, hr5, -⟩ := read_ownB how rfl
        injection e5 with e51 e52 e53
        subst e51; subst e53
        have hS3 := hS.go hbw
        clear how hbw hwr
        rw [hlw]
        go_wp2_with (at_builtin; refine wpList_appBs rfl _ _ rfl rfl rfl hS3.brow hr5 hlw (by omega) (by omega) hS3.bs ?_; intro A6 n6 c6 w4 ho6 hg6 hp6)
        have hS4 := hS3.appB (M := wrB id 3 0 0) (by rw [hlw]; exact ho6) hg6 hp6
        have hst := fun h1 h2 => step_act (id := id) (X := X) (O := O) (op := 3) (x := 0) (y := 0) (by omega) h1 h2
        clear ho6 hg6 hp6 hS3 hr5
        have hqc := neg_o hS4.hF h1 h4 hX.out hS4.qu
        go_wp2_with fail
        refine hqc.mono ?_
        rintro e w5 ⟨rfl, hq5, hm5⟩
        have hS5 := hS4.bits hq5 hm5
        clear hq5 hm5 hS4 hqc
        go_wp2_with fail
        go_roundg (gk - 1)
        case measure => omega
        case rel => exact ⟨i + 1, _, _, L ++ wrB id 3 0 0, actX id X 3 0 0, actO id X O 3, rfl, rfl, by simp, by omega, by omega, by simpa [actX, actO] using hS5, Lib.hid (run_snoc i 0 [] L X O _ _ hrun.out (hst (by rw [hW2, hbytes]; exact Nat.two_pow_pos _) (by rw [hW2, hbytes]; exact Nat.two_pow_pos _))), by rw [List.length_append, hlw]; omega, by simp [actO]; omega, Lib.hid (by simp [actX]; exact quNg_lt hX.out)⟩
      · have hwr := Lib.hid fun W (hb : Below w.heap.size w W) => wr_out h1 h4 (hW.below hb)
        have hlw : (wrB id 4 0 0).length = 1 := by rw [act_len id 4 0 0 (W / 8) (by rw [hW2])]; rfl
        go_wp2_with fail
        refine (hwr.out _ hS.below).mono ?_
        rintro e w3 ⟨Aw, cw, rfl, how, hbw⟩
        obtain ⟨A5, c5, e5, hr5, -⟩ := read_ownB how rfl
        injection e5 with e51 e52 e53
        subst e51; subst e53
        have hS3 := hS.go hbw
        clear how hbw hwr
        rw [hlw]
        go_wp2_with (at_builtin; refine wpList_appBs rfl _ _ rfl rfl rfl hS3.brow hr5 hlw (by omega) (by omega) hS3.bs ?_; intro A6 n6 c6 w4 ho6 hg6 hp6)
        have hS4 := hS3.appB (M := wrB id 4 0 0) (by rw [hlw]; exact ho6) hg6 hp6
        have hst := fun h1 h2 => step_act (id := id) (X := X) (O := O) (op := 4) (x := 0) (y := 0) (by omega) h1 h2
        clear ho6 hg6 hp6 hS3 hr5
        have hqc := posit_o h1 h4 hX.out (hW.below hS4.below) hS4.qu
        obtain ⟨z, hz⟩ : ∃ z : Nat, quP id X = (z : Int) := ⟨(quP id X).toNat, by have := quP_nat (X := X) h1 h4; omega⟩
        rw [hz] at hqc
        go_wp2_with fail
        refine hqc.mono ?_
        rintro e w5 ⟨rfl, hb5⟩
        have hS5 := (hS4.go hb5).go ((Below.refl w5.heap.size w5).alloc (Nat.le_refl _) (.cells #[.int .u64 (z : Nat)] 22))
        have cz := (pBlk_made w5 #[.int .u64 (z : Nat)] 22).cell 0 _ rfl
        clear hb5 hS4 hqc
        go_wp2_with (at_builtin; refine wpList_appO rfl _ _ rfl rfl rfl hS5.row cz (by omega) hS5.bs ?_; intro A7 n7 c7 w6 ho7 hg7 hp7)
        have hS6 := hS5.appO ho7 hg7 hp7
        have hzn : (quP id X).toNat = z := by omega
        clear ho7 hg7 hp7 hS5 cz
        go_roundg (gk - 1)
        case measure => omega
        case rel => exact ⟨i + 1, _, _, L ++ wrB id 4 0 0, actX id X 4 0 0, actO id X O 4, rfl, rfl, by simp, by omega, by omega, by simpa [actX, actO, hzn] using hS6, Lib.hid (run_snoc i 0 [] L X O _ _ hrun.out (hst (by rw [hW2, hbytes]; exact Nat.two_pow_pos _) (by rw [hW2, hbytes]; exact Nat.two_pow_pos _))), by rw [List.length_append, hlw]; omega, by simp [actO]; omega, Lib.hid (by simp [actX]; exact hX.out)⟩
    · have hnot : (¬ (i : Int) < (n : Int)) ∨ ((i : Int) < (n : Int) ∧ ¬ (i : Int) < 100) := by omega
      have hrun1 : runP id 1000 0 [] L = ⟨0, L.length, X, O⟩ := by
        have h9 := run_rounds id i (1000 - i) 0 [] L (by rw [hrun.out])
        rw [show i + (1000 - i) = 1000 by omega, hrun.out] at h9
        exact h9
      obtain ⟨B, c9, eB, hrd, hlc, hcm9, -, -⟩ := read_ownB hS.brow rfl
      subst eB
      obtain ⟨A3, c3, eO, hoc, hro⟩ := own_read hS.row
      subst eO
      obtain ⟨m, hm⟩ : ∃ m, L.length = m := ⟨_, rfl⟩
      obtain ⟨k, hk⟩ : ∃ k, O.length = k := ⟨_, rfl⟩
      have hc := Lib.hid (run_yes h1 h4 (hW.below hS.below) (⟨hm, by omega, hcm9, by omega, hrd⟩ : ByA wr B m c9 L))
      rw [hrun1] at hc
      rw [hm] at hLl hc ⊢
      rw [hk] at hoc hOl ⊢
      clear hrun hrun1 hW hcell hand hrd hlc hcm9
      have hbel := hS.below
      have hqu := hS.qu
      clear hS
      rcases hnot with hnot | ⟨hnot0, hnot⟩
      all_goals
        go_wp2_with fail
        refine hc.out.mono ?_
        intro e w8 hR
        obtain ⟨A1, A2, n1, c1, c2, rfl, hx3, hke, hru, hb⟩ := run_told hR (er := 0) (us := (m : Int)) (O := O) (k := k) rfl rfl rfl hk
        clear hc hR
        have hal := (Below.refl w8.heap.size w8).alloc (Nat.le_refl _) (.cells #[.slice A1 n1 c1, .slice A2 k c2] 57)
        obtain ⟨zA, zc, zs, ez, hz1, -, -, hz16, hz2⟩ := hx3
        injection ez with e1 e2 e3
        subst e1; subst e2; subst e3
        have hS0 : PJ w _ g id w8.heap.size (.slice A1 zs.length c1) (.slice A2 k c2) A2 A3 A1 X O zs _ :=
          ⟨(hbel.trans (hb.mono hbel.size)).trans (hal.mono (Nat.le_trans hbel.size hb.size)), pBlk_made w8 #[.slice A1 zs.length c1, .slice A2 k c2] 57, pU_st _ _ _ _ hru hal, pU_st _ _ _ _ (pU_st _ _ _ _ hro hb) hal, pU_st _ _ _ _ hz1 hal, (hqu.below hb).below hal⟩
        obtain ⟨zl, hzl⟩ : ∃ z, zs.length = z := ⟨_, rfl⟩
        have hz5 : zl ≤ 1000000 := by omega
        rw [hzl] at hS0 ⊢
        clear hal hb hru hz1 hbel hqu hro
        go_wp2_with fail
        obtain ⟨s8, hs8⟩ : ∃ s, w8.heap.size = s := ⟨_, rfl⟩
        rw [hs8] at hS0 ⊢
        refine wp_region_held_drew (S := PJ w _ g id s8 (.slice A1 zl c1) (.slice A2 k c2) A2 A3 A1 X O zs) (by kernel_rfl) (hS0.keep (Below.refl _ _).drew) (fun hS => ?_)
        (refine wpAnyH_take (i := 0) (v := ?_) rfl (by kernel_rfl) (by kernel_rfl) (by kernel_rfl) (fun _ _ _ h => h) (Or.inl ⟨by kernel_rfl, ?_⟩) hS ?_; rotate_left; (focus ((intro W9 hSW; have hx1 := hSW.b3.cell 0 _ rfl; have hx2 := hSW.b3.cell 1 _ rfl; have hl1 := hSW.b3.lt; go_simp) <;> with_reducible rfl)))
        (refine wpAnyH_take (i := 1) (v := ?_) rfl (by kernel_rfl) (by kernel_rfl) (by kernel_rfl) (fun _ _ _ h => h) (Or.inl ⟨by kernel_rfl, ?_⟩) hS ?_; rotate_left; (focus ((intro W9 hSW; have hx1 := hSW.b3.cell 0 _ rfl; have hx2 := hSW.b3.cell 1 _ rfl; have hl1 := hSW.b3.lt; go_simp) <;> with_reducible rfl)))
        (refine wpAnyH_take (i := 2) (v := ?_) rfl (by kernel_rfl) (by kernel_rfl) (by kernel_rfl) (fun _ _ _ h => h) (Or.inl ⟨by kernel_rfl, ?_⟩) hS ?_; rotate_left; (focus ((intro W9 hSW; have hx1 := hSW.b3.cell 0 _ rfl; have hx2 := hSW.b3.cell 1 _ rfl; have hl1 := hSW.b3.lt; go_simp) <;> with_reducible rfl)))
        (refine wpAnyH_take (i := 3) (v := ?_) rfl (by kernel_rfl) (by kernel_rfl) (by kernel_rfl) (fun _ _ _ h => h) (Or.inl ⟨by kernel_rfl, ?_⟩) hS ?_; rotate_left; (focus ((intro W9 hSW; have hx1 := hSW.b3.cell 0 _ rfl; have hx2 := hSW.b3.cell 1 _ rfl; have hl1 := hSW.b3.lt; go_simp) <;> with_reducible rfl)))
        (refine wpAnyH_take (i := 4) (v := ?_) rfl (by kernel_rfl) (by kernel_rfl) (by kernel_rfl) (fun _ _ _ h => h) (Or.inl ⟨by kernel_rfl, ?_⟩) hS ?_; rotate_left; (focus ((intro W9 hSW; have hx1 := hSW.b3.cell 0 _ rfl; have hx2 := hSW.b3.cell 1 _ rfl; have hl1 := hSW.b3.lt; go_simp) <;> with_reducible rfl)))
        (refine wpAnyH_take (i := 5) (v := ?_) rfl (by kernel_rfl) (by kernel_rfl) (by kernel_rfl) (fun _ _ _ h => h) (Or.inl ⟨by kernel_rfl, ?_⟩) hS ?_; rotate_left; (focus ((intro W9 hSW; have hx1 := hSW.b3.cell 0 _ rfl; have hx2 := hSW.b3.cell 1 _ rfl; have hl1 := hSW.b3.lt; go_simp) <;> with_reducible rfl)))
        (refine wpAnyH_take (i := 6) (v := ?_) rfl (by kernel_rfl) (by kernel_rfl) (by kernel_rfl) (fun _ _ _ h => h) (Or.inl ⟨by kernel_rfl, ?_⟩) hS ?_; rotate_left; (focus ((intro W9 hSW; have hx1 := hSW.b3.cell 0 _ rfl; have hx2 := hSW.b3.cell 1 _ rfl; have hl1 := hSW.b3.lt; go_simp) <;> with_reducible rfl)))
        (refine wpAnyH_take (i := 7) (v := ?_) rfl (by kernel_rfl) (by kernel_rfl) (by kernel_rfl) (fun _ _ _ h => h) (Or.inl ⟨by kernel_rfl, ?_⟩) hS ?_; rotate_left; (focus ((intro W9 hSW; have hx1 := hSW.b3.cell 0 _ rfl; have hx2 := hSW.b3.cell 1 _ rfl; have hl1 := hSW.b3.lt; go_simp) <;> with_reducible rfl)))
        (refine wpAnyH_take (i := 8) (v := ?_) rfl (by kernel_rfl) (by kernel_rfl) (by kernel_rfl) (fun _ _ _ h => h) (Or.inl ⟨by kernel_rfl, ?_⟩) hS ?_; rotate_left; (focus ((intro W9 hSW; have hx1 := hSW.b3.cell 0 _ rfl; have hx2 := hSW.b3.cell 1 _ rfl; have hl1 := hSW.b3.lt; go_simp) <;> with_reducible rfl)))
        (refine wpAnyH_take (i := 9) (v := ?_) rfl (by kernel_rfl) (by kernel_rfl) (by kernel_rfl) (fun _ _ _ h => h) (Or.inl ⟨by kernel_rfl, ?_⟩) hS ?_; rotate_left; (focus ((intro W9 hSW; have hx1 := hSW.b3.cell 0 _ rfl; have hx2 := hSW.b3.cell 1 _ rfl; have hl1 := hSW.b3.lt; go_simp) <;> with_reducible rfl)))
        (refine wpAnyH_take (i := 10) (v := ?_) rfl (by kernel_rfl) (by kernel_rfl) (by kernel_rfl) (fun _ _ _ h => h) (Or.inl ⟨by kernel_rfl, ?_⟩) hS ?_; rotate_left; (focus ((intro W9 hSW; have hx1 := hSW.b3.cell 0 _ rfl; have hx2 := hSW.b3.cell 1 _ rfl; have hl1 := hSW.b3.lt; go_simp) <;> with_reducible rfl)))
        (refine wpAnyH_take (i := 11) (v := ?_) rfl (by kernel_rfl) (by kernel_rfl) (by kernel_rfl) (fun _ _ _ h => h) (Or.inl ⟨by kernel_rfl, ?_⟩) hS ?_; rotate_left; (focus ((intro W9 hSW; have hx1 := hSW.b3.cell 0 _ rfl; have hx2 := hSW.b3.cell 1 _ rfl; have hl1 := hSW.b3.lt; go_simp) <;> with_reducible rfl)))
        (refine wpAnyH_take (i := 12) (v := ?_) rfl (by kernel_rfl) (by kernel_rfl) (by kernel_rfl) (fun _ _ _ h => h) (Or.inl ⟨by kernel_rfl, ?_⟩) hS ?_; rotate_left; (focus ((intro W9 hSW; have hx1 := hSW.b3.cell 0 _ rfl; have hx2 := hSW.b3.cell 1 _ rfl; have hl1 := hSW.b3.lt; go_simp) <;> with_reducible rfl)))
        (refine wpAnyH_take (i := 13) (v := ?_) rfl (by kernel_rfl) (by kernel_rfl) (by kernel_rfl) (fun _ _ _ h => h) (Or.inl ⟨by kernel_rfl, ?_⟩) hS ?_; rotate_left; (focus ((intro W9 hSW; have hx1 := hSW.b3.cell 0 _ rfl; have hx2 := hSW.b3.cell 1 _ rfl; have hl1 := hSW.b3.lt; go_simp) <;> with_reducible rfl)))
        (refine wpAnyH_take (i := 14) (v := ?_) rfl (by kernel_rfl) (by kernel_rfl) (by kernel_rfl) (fun _ _ _ h => h) (Or.inl ⟨by kernel_rfl, ?_⟩) hS ?_; rotate_left; (focus ((intro W9 hSW; have hx1 := hSW.b3.cell 0 _ rfl; have hx2 := hSW.b3.cell 1 _ rfl; have hl1 := hSW.b3.lt; go_simp) <;> with_reducible rfl)))
        (refine wpAnyH_ready (rs := [15]) (by kernel_rfl) (by simp) ?_; refine AllReadyH.cons rfl (fun K hK => ?_) AllReadyH.nil)
        go_simp
        go_at_call 39
        refine Calls.mono (bits_o hS.qu) ?_
        rintro e w9 ⟨A5, n5, c5, rfl, hv5, -, hb5⟩
        refine hK.out _ _ (hS.keep hb5) (fun hS => ?_)
        obtain ⟨yA, yc, ys, ey, hy1, -, -, -, hy2⟩ := hv5
        obtain rfl := hz2.unique hy2
        injection ey with e1 e2 e3
        subst e1; subst e2; subst e3
        rw [hzl]
        (refine wpAnyH_ready (rs := [16]) (by kernel_rfl) (by simp) ?_; refine AllReadyH.cons rfl (fun K hK => ?_) AllReadyH.nil)
        go_simp
        go_at_call 38
        refine Calls.mono (words_yes hS.z1 hy1 hzl hz5) ?_
        rintro e w10 ⟨rfl, mm, hw10⟩
        have hb10 : Below _ _ w10 := hw10 ▸ below_drewN _ mm
        clear hw10
        refine hK.out _ _ (hS.keep hb10) (fun hS => ?_)
        (refine wpAnyH_take (i := 17) (v := ?_) rfl (by kernel_rfl) (by kernel_rfl) (by kernel_rfl) (fun _ _ _ h => h) (Or.inl ⟨by kernel_rfl, ?_⟩) hS ?_; rotate_left; (focus ((intro W9 hSW; have hx1 := hSW.b3.cell 0 _ rfl; have hx2 := hSW.b3.cell 1 _ rfl; have hl1 := hSW.b3.lt; go_simp) <;> with_reducible rfl)))
        (refine wpAnyH_take (i := 18) (v := ?_) rfl (by kernel_rfl) (by kernel_rfl) (by kernel_rfl) (fun _ _ _ h => h) (Or.inl ⟨by kernel_rfl, ?_⟩) hS ?_; rotate_left; (focus ((intro W9 hSW; have hx1 := hSW.b3.cell 0 _ rfl; have hx2 := hSW.b3.cell 1 _ rfl; have hl1 := hSW.b3.lt; go_simp) <;> with_reducible rfl)))
        (refine wpAnyH_take (i := 19) (v := ?_) rfl (by kernel_rfl) (by kernel_rfl) (by kernel_rfl) (fun _ _ _ h => h) (Or.inl ⟨by kernel_rfl, ?_⟩) hS ?_; rotate_left; (focus ((intro W9 hSW; have hx1 := hSW.b3.cell 0 _ rfl; have hx2 := hSW.b3.cell 1 _ rfl; have hl1 := hSW.b3.lt; go_simp) <;> with_reducible rfl)))
        (refine wpAnyH_take (i := 20) (v := ?_) rfl (by kernel_rfl) (by kernel_rfl) (by kernel_rfl) (fun _ _ _ h => h) (Or.inl ⟨by kernel_rfl, ?_⟩) hS ?_; rotate_left; (focus ((intro W9 hSW; have hx1 := hSW.b3.cell 0 _ rfl; have hx2 := hSW.b3.cell 1 _ rfl; have hl1 := hSW.b3.lt; go_simp) <;> with_reducible rfl)))
        (refine wpAnyH_take (i := 21) (v := ?_) rfl (by kernel_rfl) (by kernel_rfl) (by kernel_rfl) (fun _ _ _ h => h) (Or.inl ⟨by kernel_rfl, ?_⟩) hS ?_; rotate_left; (focus ((intro W9 hSW; have hx1 := hSW.b3.cell 0 _ rfl; have hx2 := hSW.b3.cell 1 _ rfl; have hl1 := hSW.b3.lt; go_simp) <;> with_reducible rfl)))
        (refine wpAnyH_ready (rs := [22]) (by kernel_rfl) (by simp) ?_; refine AllReadyH.cons rfl (fun K hK => ?_) AllReadyH.nil)
        go_simp
        go_at_call 38
        refine Calls.mono (words_yes hS.u1 hS.u2 hk (by omega)) ?_
        rintro e w11 ⟨rfl, mm2, hw11⟩
        have hb11 : Below _ _ w11 := hw11 ▸ below_drewN _ mm2
        clear hw11
        refine hK.out _ _ (hS.keep hb11) (fun hS => ?_)
        (refine wpAnyH_take (i := 23) (v := ?_) rfl (by kernel_rfl) (by kernel_rfl) (by kernel_rfl) (fun _ _ _ h => h) (Or.inl ⟨by kernel_rfl, ?_⟩) hS ?_; rotate_left; (focus ((intro W9 hSW; have hx1 := hSW.b3.cell 0 _ rfl; have hx2 := hSW.b3.cell 1 _ rfl; have hl1 := hSW.b3.lt; go_simp) <;> with_reducible rfl)))
        (refine wpAnyH_take (i := 24) (v := ?_) rfl (by kernel_rfl) (by kernel_rfl) (by kernel_rfl) (fun _ _ _ h => h) (Or.inl ⟨by kernel_rfl, ?_⟩) hS ?_; rotate_left; (focus ((intro W9 hSW; have hx1 := hSW.b3.cell 0 _ rfl; have hx2 := hSW.b3.cell 1 _ rfl; have hl1 := hSW.b3.lt; go_simp) <;> with_reducible rfl)))
        refine wpAnyH_done (by kernel_rfl) ?_ _
        have hfin := hS.bel
        go_wp2
        go_ret
        exact ⟨rfl, hfin⟩
end Go.Proofs.YtobokaafmcfeaaaGreatDoor
