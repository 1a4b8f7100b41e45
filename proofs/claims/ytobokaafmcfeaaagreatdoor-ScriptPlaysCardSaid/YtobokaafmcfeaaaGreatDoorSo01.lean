/- What the statement wants beyond its base. Conditions: none. -/
import Derived.Test.YtobokaafmcfeaaaGreatDoorSo00
namespace Go.Proofs.YtobokaafmcfeaaaGreatDoor
open Go.RowKit Go.Cal
theorem out_few (id : Int) (l : List UInt8) : (runP id 1000 0 [] l).O.length ≤ 1000 := by
  obtain ⟨m, e, h⟩ := run_outs id 1000 0 [] l
  rw [e]
  simpa using h
/-- What stands while the last words are told. -/
structure JS (w : World) (s4 s5 s8 : Nat) (v1 v2 v3 v4 v5 v6 : Value) (A2 A3 A4 A5 A6 : Option Addr) (o1 o2 zs : List Nat) (W : World) : Prop where
  bel : Below w.heap.size w W
  b4 : pBlk s4 #[v1, v2] 57 W
  b5 : pBlk s5 #[v3, v4] 57 W
  b8 : pBlk s8 #[v5, v6] 57 W
  u1 : RdU W W.heap.size A2 o1
  u2 : RdU W W.heap.size A4 o2
  u3 : RdU W W.heap.size A6 (o1 ++ o2)
  z3 : RdU W W.heap.size A3 zs
  z5 : RdU W W.heap.size A5 zs
theorem JS.keep {w : World} {s4 s5 s8 : Nat} {v1 v2 v3 v4 v5 v6 : Value} {A2 A3 A4 A5 A6 : Option Addr} {o1 o2 zs : List Nat} {W W' : World} (h : JS w s4 s5 s8 v1 v2 v3 v4 v5 v6 A2 A3 A4 A5 A6 o1 o2 zs W) (hb : Below W.heap.size W W') : JS w s4 s5 s8 v1 v2 v3 v4 v5 v6 A2 A3 A4 A5 A6 o1 o2 zs W' :=
  ⟨h.bel.trans (hb.mono h.bel.size), pBlk_st _ _ _ _ _ h.b4 hb, pBlk_st _ _ _ _ _ h.b5 hb, pBlk_st _ _ _ _ _ h.b8 hb, pU_st _ _ _ _ h.u1 hb, pU_st _ _ _ _ h.u2 hb, pU_st _ _ _ _ h.u3 hb, pU_st _ _ _ _ h.z3 hb, pU_st _ _ _ _ h.z5 hb⟩
set_option maxRecDepth 100000 in
set_option maxHeartbeats 4000000 in
theorem scriptJoins_yes (idv : Int) (va vb : Value) (w : World) (hW : VaW w) (ha : ArgB w va) (hb : ArgB w vb) (h1 : 1 ≤ idv) (h4 : idv ≤ 4) : Calls Tryz.prog 10 #[.int .i64 idv, va, vb] w fun e w' => e = .returned (.bool true) ∧ Below w.heap.size w w' := by
  obtain ⟨A, c, k, l, rfl, hr, hmi, hmc, hcm, hl⟩ := ha.cut 400
  obtain ⟨B, d, j, m, rfl, hs, hni, hnc, hdm, hm⟩ := hb.cut 400
  obtain ⟨n, hn⟩ : ∃ n, l.length = n := ⟨_, rfl⟩
  obtain ⟨q, hq⟩ : ∃ q, m.length = q := ⟨_, rfl⟩
  have hsl := fun w => slice_head A k c (l.length : Int) w (by omega) hmc
  have hsm := fun w => slice_head B j d (m.length : Int) w (by omega) hnc
  simp only [hn, hq, Int.toNat_natCast] at hsl hsm
  rw [hn] at hmi hmc hl
  rw [hq] at hni hnc hm
  replace hmi : min (k : Int) 400 = (n : Int) := hmi
  replace hni : min (j : Int) 400 = (q : Int) := hni
  have hsh := Lib.hid (shown19_any w hW)
  have hra := Lib.hid fun (W : World) (hb : Below w.heap.size w W) => run_yes (id := idv) h1 h4 (hW.below hb) (⟨hn, by omega, hcm, by omega, (hr.below hb).more hb.size⟩ : ByA W A n c l)
  have hrb := Lib.hid fun (W : World) (hb : Below w.heap.size w W) (B : Option Addr) (n d : Nat) (m : List UInt8) (Y : ByA W B n d m) => run_yes (id := idv) h1 h4 (hW.below hb) Y
  have hL := (LiveP.start w).put (pR_st A l) hr
  replace hL := hL.put (pR_st B m) hs
  have hjt := Lib.hid fun h1 h2 => joins_told (id := idv) (l := l) (m := m) h1 h2 (by omega) (by omega)
  clear hW hr hs h1 h4
  go_enter Tryz.func10, Tryz.ntmps10
  go_wp2_with fail
  refine hsh.out.mono ?_
  rintro e w1 ⟨rfl, hb1⟩
  clear hsh
  replace hL := hL.go hb1
  have hrl := (hL.go ((Below.refl _ _).alloc (Nat.le_refl _) (.cells #[.int .u8 0] 5))).get (P := pR B m) (by repeat (first | exact List.mem_cons_self | apply List.mem_cons_of_mem))
  clear hb1
  go_wp2_with (at_builtin; refine wpList_app rfl _ _ rfl w1.heap.size [0] m rfl rfl rfl hq.symm ?own hrl ?hbase ?hsz ?_)
  case own => exact ownB_lit _ _ [0] _ _ _ rfl (Nat.le_refl _) (by decide) (.inr rfl)
  case hbase => simp
  case hsz => simp; omega
  intro g3 c3 w3 how hb
  obtain ⟨q1, hq1⟩ : ∃ q1, q + 1 = q1 := ⟨_, rfl⟩
  have hqi : ((q : Int) + 1) = (q1 : Int) := by omega
  have hm1 : (0 :: m).length = q1 := by rw [List.length_cons, hq, hq1]
  have hc3 := how.len
  have hcb3 := how.capb
  have hX := ((Below.refl w1.heap.size w1).alloc (Nat.le_refl _) (.cells #[.int .u8 0] 5)).trans hb
  replace hL := (hL.go hX).put (pR_st (some ⟨g3, 0, none⟩) (0 :: m)) how.rd
  rw [hq1]
  clear hb how hrl hX
  rw [hm1] at hc3
  obtain ⟨m', hm'⟩ : ∃ x, (0 :: m : List UInt8) = x := ⟨_, rfl⟩
  rw [hm'] at hL hm1 hjt
  clear hm' hq1
  obtain ⟨R1, hR1⟩ : ∃ R, runP idv 1000 0 [] l = R := ⟨_, rfl⟩
  obtain ⟨R2, hR2⟩ : ∃ R, runP idv 1000 0 [] m' = R := ⟨_, rfl⟩
  have hf1 := out_few idv l
  have hf2 := out_few idv m'
  rw [hR1] at hra hjt hf1
  rw [hR2] at hjt hf2
  obtain ⟨k1, hk1⟩ : ∃ k, R1.O.length = k := ⟨_, rfl⟩
  obtain ⟨k2, hk2⟩ : ∃ k, R2.O.length = k := ⟨_, rfl⟩
  rw [hk1] at hf1
  rw [hk2] at hf2
  have hc := Lib.hid (hra.out _ hL.below)
  clear hra
  go_wp2_with fail
  refine hc.out.mono ?_
  rintro e w4 ⟨A1, A2, n1, c1, c2, rfl, -, hkc, hrd, hb⟩
  rw [hk1] at hkc ⊢
  replace hL := ((hL.go hb).put (pU_st A2 R1.O) hrd).go ((Below.refl _ _).alloc (Nat.le_refl _) (.cells #[.slice A1 n1 c1, .slice A2 k1 c2] 57))
  replace hL := hL.put (pBlk_st _ _ _) (pBlk_made w4 #[.slice A1 n1 c1, .slice A2 k1 c2] 57)
  clear hc hb hrd
  have hc := Lib.hid (hrb.out _ hL.below _ _ _ _ (⟨hm1, hc3, hcb3, by omega, hL.get (P := pR (some ⟨g3, 0, none⟩) m') (by repeat (first | exact List.mem_cons_self | apply List.mem_cons_of_mem))⟩ : ByA _ _ q1 c3 m'))
  rw [hR2] at hc
  go_wp2_with fail
  refine hc.out.mono ?_
  rintro e w5 ⟨A3, A4, n3, c3', c4, rfl, hx2, hkd, hrd, hb⟩
  rw [hk2] at hkd ⊢
  replace hL := (((hL.go hb).put (pU_st A4 R2.O) hrd).put (pT_st _ _ _) hx2).go ((Below.refl _ _).alloc (Nat.le_refl _) (.cells #[.slice A3 n3 c3', .slice A4 k2 c4] 57))
  replace hL := hL.put (pBlk_st _ _ _) (pBlk_made w5 #[.slice A3 n3 c3', .slice A4 k2 c4] 57)
  clear hc hb hrd hx2
  by_cases he1 : R1.err = 0
  · have hz1 : (R1.err : Int) = 0 := by omega
    rw [hz1]
    by_cases he2 : R2.err = 0
    · have hz2 : (R2.err : Int) = 0 := by omega
      rw [hz2]
      have hR3 := hjt.out he1 he2
      have hrl := (hL.go ((Below.refl _ _).alloc (Nat.le_refl _) (.cells #[] 5))).get (P := pR A l) (by repeat (first | exact List.mem_cons_self | apply List.mem_cons_of_mem))
      clear hjt
      go_wp2_with (at_builtin; refine wpList_app rfl _ _ rfl (w5.heap.size + 1) [] l rfl rfl rfl hn.symm ?own hrl ?hbase ?hsz ?_)
      case own => exact ownB_lit2 _ _ [] _ rfl (by decide)
      case hbase => simp
      case hsz => simp; omega
      intro g6 c6 w6 how6 hb6
      have hrl := (hL.go (below_app hb6)).get (P := pR (some ⟨g3, 0, none⟩) m') (by repeat (first | exact List.mem_cons_self | apply List.mem_cons_of_mem))
      go_wp2_with (at_builtin; (refine wpList_app rfl _ _ rfl (w5.heap.size + 1) l m' rfl (by first | exact hn.symm | rfl) rfl hm1.symm how6 hrl ?hbase ?hsz ?_))
      case hbase => have := hb6.size; simp at this; omega
      case hsz => omega
      intro g7 c7 w7 how7 hb7
      replace hL := hL.go (below_app (hb6.trans hb7))
      have hlm : (l ++ m').length = n + q1 := by rw [List.length_append, hn, hm1]
      have hc7 := how7.len
      rw [hlm] at hc7
      have hc := Lib.hid (hrb.out _ hL.below _ _ _ _ (⟨hlm, hc7, how7.capb, by omega, how7.rd⟩ : ByA _ (some ⟨g7, 0, none⟩) (n + q1) c7 (l ++ m')))
      rw [hR3] at hc
      replace hlm := Lib.hid hlm
      clear hb6 hb7 how6 how7 hrl hc7 hrb hR3
      go_wp2_with fail
      refine hc.out.mono ?_
      intro e w8 hR
      obtain ⟨A5, A6, n5, c5, c6', rfl, hx3, hke, hrd, hb⟩ := run_told hR (er := 0) (us := (n : Int) + (q1 : Int)) (O := R1.O ++ R2.O) (k := k1 + k2) rfl (by show ((l.length + (m.length + 1) : Nat) : Int) = _; omega) rfl (by rw [List.length_append, hk1, hk2])
      clear hc hR
      replace hL := (((hL.go hb).put (pU_st A6 (R1.O ++ R2.O)) hrd).put (pT_st (.slice A5 n5 c5) 16 R2.X) hx3).go ((Below.refl _ _).alloc (Nat.le_refl _) (.cells #[.slice A5 n5 c5, .slice A6 (k1 + k2) c6'] 57))
      replace hL := hL.put (pBlk_st _ _ _) (pBlk_made w8 #[.slice A5 n5 c5, .slice A6 (k1 + k2) c6'] 57)
      clear hb hrd hx3
      obtain ⟨s4, hs4⟩ : ∃ s, w4.heap.size = s := ⟨_, rfl⟩
      obtain ⟨s5, hs5⟩ : ∃ s, w5.heap.size = s := ⟨_, rfl⟩
      obtain ⟨s8, hs8⟩ : ∃ s, w8.heap.size = s := ⟨_, rfl⟩
      rw [hs4, hs5, hs8] at hL
      rw [hs4, hs5]
      obtain ⟨zA, zc, zs, ez, hz1, -, -, hz16, hz2⟩ := hL.get (P := pT (.slice A5 n5 c5) 16 R2.X) (by repeat (first | exact List.mem_cons_self | apply List.mem_cons_of_mem))
      obtain ⟨yA, yc, ys, ey, hy1, -, -, -, hy2⟩ := hL.get (P := pT (.slice A3 n3 c3') 16 R2.X) (by repeat (first | exact List.mem_cons_self | apply List.mem_cons_of_mem))
      obtain rfl := hz2.unique hy2
      injection ez with e1 e2 e3
      subst e1; subst e2; subst e3
      injection ey with e1 e2 e3
      subst e1; subst e2; subst e3
      have hS0 : JS w s4 s5 s8 (.slice A1 n1 c1) (.slice A2 k1 c2) (.slice A3 zs.length c3') (.slice A4 k2 c4) (.slice A5 zs.length c5) (.slice A6 (k1 + k2) c6') A2 A3 A4 A5 A6 R1.O R2.O zs _ :=
        ⟨hL.below, hL.get (P := pBlk s4 #[.slice A1 n1 c1, .slice A2 k1 c2] 57) (by repeat (first | exact List.mem_cons_self | apply List.mem_cons_of_mem)), hL.get (P := pBlk s5 #[.slice A3 zs.length c3', .slice A4 k2 c4] 57) (by repeat (first | exact List.mem_cons_self | apply List.mem_cons_of_mem)), hL.get (P := pBlk s8 #[.slice A5 zs.length c5, .slice A6 (k1 + k2) c6'] 57) (by repeat (first | exact List.mem_cons_self | apply List.mem_cons_of_mem)), hL.get (P := pU A2 R1.O) (by repeat (first | exact List.mem_cons_self | apply List.mem_cons_of_mem)), hL.get (P := pU A4 R2.O) (by repeat (first | exact List.mem_cons_self | apply List.mem_cons_of_mem)), hL.get (P := pU A6 (R1.O ++ R2.O)) (by repeat (first | exact List.mem_cons_self | apply List.mem_cons_of_mem)), hy1, hz1⟩
      clear hL hz1 hy1
      have hwr : IntKind.i64.wrap ((n : Int) + (q1 : Int)) = (n : Int) + (q1 : Int) := by rw [IntKind.wrap_i64]; omega
      obtain ⟨zl, hzl⟩ : ∃ z, zs.length = z := ⟨_, rfl⟩
      have hz5 : zl ≤ 1000000 := by omega
      rw [hzl] at hS0 ⊢
      go_wp2_with fail
      refine wp_region_held_drew (S := JS w s4 s5 s8 (.slice A1 n1 c1) (.slice A2 k1 c2) (.slice A3 zl c3') (.slice A4 k2 c4) (.slice A5 zl c5) (.slice A6 (k1 + k2) c6') A2 A3 A4 A5 A6 R1.O R2.O zs) (by kernel_rfl) (hS0.keep (Below.refl _ _).drew) (fun hS => ?_)
      (refine wpAnyH_take (i := 0) (v := ?_) rfl (by kernel_rfl) (by kernel_rfl) (by kernel_rfl) (fun _ _ _ h => h) (Or.inl ⟨by kernel_rfl, ?_⟩) hS ?_; rotate_left; (focus ((intro W9 hSW; have hx1 := hSW.b4.cell 1 _ rfl; have hx2 := hSW.b5.cell 0 _ rfl; have hx3 := hSW.b5.cell 1 _ rfl; have hx4 := hSW.b8.cell 0 _ rfl; have hx5 := hSW.b8.cell 1 _ rfl; have hl1 := hSW.b4.lt; have hl2 := hSW.b5.lt; have hl3 := hSW.b8.lt; go_simp) <;> with_reducible rfl)))
      (refine wpAnyH_take (i := 1) (v := ?_) rfl (by kernel_rfl) (by kernel_rfl) (by kernel_rfl) (fun _ _ _ h => h) (Or.inl ⟨by kernel_rfl, ?_⟩) hS ?_; rotate_left; (focus ((intro W9 hSW; have hx1 := hSW.b4.cell 1 _ rfl; have hx2 := hSW.b5.cell 0 _ rfl; have hx3 := hSW.b5.cell 1 _ rfl; have hx4 := hSW.b8.cell 0 _ rfl; have hx5 := hSW.b8.cell 1 _ rfl; have hl1 := hSW.b4.lt; have hl2 := hSW.b5.lt; have hl3 := hSW.b8.lt; go_simp) <;> with_reducible rfl)))
      (refine wpAnyH_take (i := 2) (v := ?_) rfl (by kernel_rfl) (by kernel_rfl) (by kernel_rfl) (fun _ _ _ h => h) (Or.inl ⟨by kernel_rfl, ?_⟩) hS ?_; rotate_left; (focus ((intro W9 hSW; have hx1 := hSW.b4.cell 1 _ rfl; have hx2 := hSW.b5.cell 0 _ rfl; have hx3 := hSW.b5.cell 1 _ rfl; have hx4 := hSW.b8.cell 0 _ rfl; have hx5 := hSW.b8.cell 1 _ rfl; have hl1 := hSW.b4.lt; have hl2 := hSW.b5.lt; have hl3 := hSW.b8.lt; go_simp) <;> with_reducible rfl)))
      (refine wpAnyH_take (i := 3) (v := ?_) rfl (by kernel_rfl) (by kernel_rfl) (by kernel_rfl) (fun _ _ _ h => h) (Or.inl ⟨by kernel_rfl, ?_⟩) hS ?_; rotate_left; (focus ((intro W9 hSW; have hx1 := hSW.b4.cell 1 _ rfl; have hx2 := hSW.b5.cell 0 _ rfl; have hx3 := hSW.b5.cell 1 _ rfl; have hx4 := hSW.b8.cell 0 _ rfl; have hx5 := hSW.b8.cell 1 _ rfl; have hl1 := hSW.b4.lt; have hl2 := hSW.b5.lt; have hl3 := hSW.b8.lt; go_simp) <;> with_reducible rfl)))
      (refine wpAnyH_take (i := 4) (v := ?_) rfl (by kernel_rfl) (by kernel_rfl) (by kernel_rfl) (fun _ _ _ h => h) (Or.inl ⟨by kernel_rfl, ?_⟩) hS ?_; rotate_left; (focus ((intro W9 hSW; have hx1 := hSW.b4.cell 1 _ rfl; have hx2 := hSW.b5.cell 0 _ rfl; have hx3 := hSW.b5.cell 1 _ rfl; have hx4 := hSW.b8.cell 0 _ rfl; have hx5 := hSW.b8.cell 1 _ rfl; have hl1 := hSW.b4.lt; have hl2 := hSW.b5.lt; have hl3 := hSW.b8.lt; go_simp) <;> with_reducible rfl)))
      (refine wpAnyH_take (i := 5) (v := ?_) rfl (by kernel_rfl) (by kernel_rfl) (by kernel_rfl) (fun _ _ _ h => h) (Or.inl ⟨by kernel_rfl, ?_⟩) hS ?_; rotate_left; (focus ((intro W9 hSW; have hx1 := hSW.b4.cell 1 _ rfl; have hx2 := hSW.b5.cell 0 _ rfl; have hx3 := hSW.b5.cell 1 _ rfl; have hx4 := hSW.b8.cell 0 _ rfl; have hx5 := hSW.b8.cell 1 _ rfl; have hl1 := hSW.b4.lt; have hl2 := hSW.b5.lt; have hl3 := hSW.b8.lt; go_simp) <;> with_reducible rfl)))
      (refine wpAnyH_take (i := 6) (v := ?_) rfl (by kernel_rfl) (by kernel_rfl) (by kernel_rfl) (fun _ _ _ h => h) (Or.inl ⟨by kernel_rfl, ?_⟩) hS ?_; rotate_left; (focus ((intro W9 hSW; have hx1 := hSW.b4.cell 1 _ rfl; have hx2 := hSW.b5.cell 0 _ rfl; have hx3 := hSW.b5.cell 1 _ rfl; have hx4 := hSW.b8.cell 0 _ rfl; have hx5 := hSW.b8.cell 1 _ rfl; have hl1 := hSW.b4.lt; have hl2 := hSW.b5.lt; have hl3 := hSW.b8.lt; go_simp) <;> with_reducible rfl)))
      (refine wpAnyH_take (i := 7) (v := ?_) rfl (by kernel_rfl) (by kernel_rfl) (by kernel_rfl) (fun _ _ _ h => h) (Or.inl ⟨by kernel_rfl, ?_⟩) hS ?_; rotate_left; (focus ((intro W9 hSW; have hx1 := hSW.b4.cell 1 _ rfl; have hx2 := hSW.b5.cell 0 _ rfl; have hx3 := hSW.b5.cell 1 _ rfl; have hx4 := hSW.b8.cell 0 _ rfl; have hx5 := hSW.b8.cell 1 _ rfl; have hl1 := hSW.b4.lt; have hl2 := hSW.b5.lt; have hl3 := hSW.b8.lt; go_simp) <;> with_reducible rfl)))
      (refine wpAnyH_take (i := 8) (v := ?_) rfl (by kernel_rfl) (by kernel_rfl) (by kernel_rfl) (fun _ _ _ h => h) (Or.inl ⟨by kernel_rfl, ?_⟩) hS ?_; rotate_left; (focus ((intro W9 hSW; have hx1 := hSW.b4.cell 1 _ rfl; have hx2 := hSW.b5.cell 0 _ rfl; have hx3 := hSW.b5.cell 1 _ rfl; have hx4 := hSW.b8.cell 0 _ rfl; have hx5 := hSW.b8.cell 1 _ rfl; have hl1 := hSW.b4.lt; have hl2 := hSW.b5.lt; have hl3 := hSW.b8.lt; go_simp) <;> with_reducible rfl)))
      (refine wpAnyH_take (i := 9) (v := ?_) rfl (by kernel_rfl) (by kernel_rfl) (by kernel_rfl) (fun _ _ _ h => h) (Or.inl ⟨by kernel_rfl, ?_⟩) hS ?_; rotate_left; (focus ((intro W9 hSW; have hx1 := hSW.b4.cell 1 _ rfl; have hx2 := hSW.b5.cell 0 _ rfl; have hx3 := hSW.b5.cell 1 _ rfl; have hx4 := hSW.b8.cell 0 _ rfl; have hx5 := hSW.b8.cell 1 _ rfl; have hl1 := hSW.b4.lt; have hl2 := hSW.b5.lt; have hl3 := hSW.b8.lt; go_simp) <;> with_reducible rfl)))
      (refine wpAnyH_take (i := 10) (v := ?_) rfl (by kernel_rfl) (by kernel_rfl) (by kernel_rfl) (fun _ _ _ h => h) (Or.inl ⟨by kernel_rfl, ?_⟩) hS ?_; rotate_left; (focus ((intro W9 hSW; have hx1 := hSW.b4.cell 1 _ rfl; have hx2 := hSW.b5.cell 0 _ rfl; have hx3 := hSW.b5.cell 1 _ rfl; have hx4 := hSW.b8.cell 0 _ rfl; have hx5 := hSW.b8.cell 1 _ rfl; have hl1 := hSW.b4.lt; have hl2 := hSW.b5.lt; have hl3 := hSW.b8.lt; go_simp) <;> with_reducible rfl)))
      (refine wpAnyH_take (i := 11) (v := ?_) rfl (by kernel_rfl) (by kernel_rfl) (by kernel_rfl) (fun _ _ _ h => h) (Or.inl ⟨by kernel_rfl, ?_⟩) hS ?_; rotate_left; (focus ((intro W9 hSW; have hx1 := hSW.b4.cell 1 _ rfl; have hx2 := hSW.b5.cell 0 _ rfl; have hx3 := hSW.b5.cell 1 _ rfl; have hx4 := hSW.b8.cell 0 _ rfl; have hx5 := hSW.b8.cell 1 _ rfl; have hl1 := hSW.b4.lt; have hl2 := hSW.b5.lt; have hl3 := hSW.b8.lt; go_simp) <;> with_reducible rfl)))
      (refine wpAnyH_take (i := 12) (v := ?_) rfl (by kernel_rfl) (by kernel_rfl) (by kernel_rfl) (fun _ _ _ h => h) (Or.inl ⟨by kernel_rfl, ?_⟩) hS ?_; rotate_left; (focus ((intro W9 hSW; have hx1 := hSW.b4.cell 1 _ rfl; have hx2 := hSW.b5.cell 0 _ rfl; have hx3 := hSW.b5.cell 1 _ rfl; have hx4 := hSW.b8.cell 0 _ rfl; have hx5 := hSW.b8.cell 1 _ rfl; have hl1 := hSW.b4.lt; have hl2 := hSW.b5.lt; have hl3 := hSW.b8.lt; go_simp) <;> with_reducible rfl)))
      (refine wpAnyH_take (i := 13) (v := ?_) rfl (by kernel_rfl) (by kernel_rfl) (by kernel_rfl) (fun _ _ _ h => h) (Or.inl ⟨by kernel_rfl, ?_⟩) hS ?_; rotate_left; (focus ((intro W9 hSW; have hx1 := hSW.b4.cell 1 _ rfl; have hx2 := hSW.b5.cell 0 _ rfl; have hx3 := hSW.b5.cell 1 _ rfl; have hx4 := hSW.b8.cell 0 _ rfl; have hx5 := hSW.b8.cell 1 _ rfl; have hl1 := hSW.b4.lt; have hl2 := hSW.b5.lt; have hl3 := hSW.b8.lt; go_simp) <;> with_reducible rfl)))
      (refine wpAnyH_take (i := 14) (v := ?_) rfl (by kernel_rfl) (by kernel_rfl) (by kernel_rfl) (fun _ _ _ h => h) (Or.inl ⟨by kernel_rfl, ?_⟩) hS ?_; rotate_left; (focus ((intro W9 hSW; have hx1 := hSW.b4.cell 1 _ rfl; have hx2 := hSW.b5.cell 0 _ rfl; have hx3 := hSW.b5.cell 1 _ rfl; have hx4 := hSW.b8.cell 0 _ rfl; have hx5 := hSW.b8.cell 1 _ rfl; have hl1 := hSW.b4.lt; have hl2 := hSW.b5.lt; have hl3 := hSW.b8.lt; go_simp) <;> with_reducible rfl)))
      (refine wpAnyH_take (i := 15) (v := ?_) rfl (by kernel_rfl) (by kernel_rfl) (by kernel_rfl) (fun _ _ _ h => h) (Or.inl ⟨by kernel_rfl, ?_⟩) hS ?_; rotate_left; (focus ((intro W9 hSW; have hx1 := hSW.b4.cell 1 _ rfl; have hx2 := hSW.b5.cell 0 _ rfl; have hx3 := hSW.b5.cell 1 _ rfl; have hx4 := hSW.b8.cell 0 _ rfl; have hx5 := hSW.b8.cell 1 _ rfl; have hl1 := hSW.b4.lt; have hl2 := hSW.b5.lt; have hl3 := hSW.b8.lt; go_simp) <;> with_reducible rfl)))
      (refine wpAnyH_take (i := 16) (v := ?_) rfl (by kernel_rfl) (by kernel_rfl) (by kernel_rfl) (fun _ _ _ h => h) (Or.inl ⟨by kernel_rfl, ?_⟩) hS ?_; rotate_left; (focus ((intro W9 hSW; have hx1 := hSW.b4.cell 1 _ rfl; have hx2 := hSW.b5.cell 0 _ rfl; have hx3 := hSW.b5.cell 1 _ rfl; have hx4 := hSW.b8.cell 0 _ rfl; have hx5 := hSW.b8.cell 1 _ rfl; have hl1 := hSW.b4.lt; have hl2 := hSW.b5.lt; have hl3 := hSW.b8.lt; go_simp) <;> with_reducible rfl)))
      (refine wpAnyH_take (i := 17) (v := ?_) rfl (by kernel_rfl) (by kernel_rfl) (by kernel_rfl) (fun _ _ _ h => h) (Or.inl ⟨by kernel_rfl, ?_⟩) hS ?_; rotate_left; (focus ((intro W9 hSW; have hx1 := hSW.b4.cell 1 _ rfl; have hx2 := hSW.b5.cell 0 _ rfl; have hx3 := hSW.b5.cell 1 _ rfl; have hx4 := hSW.b8.cell 0 _ rfl; have hx5 := hSW.b8.cell 1 _ rfl; have hl1 := hSW.b4.lt; have hl2 := hSW.b5.lt; have hl3 := hSW.b8.lt; go_simp) <;> with_reducible rfl)))
      (refine wpAnyH_take (i := 18) (v := ?_) rfl (by kernel_rfl) (by kernel_rfl) (by kernel_rfl) (fun _ _ _ h => h) (Or.inl ⟨by kernel_rfl, ?_⟩) hS ?_; rotate_left; (focus ((intro W9 hSW; have hx1 := hSW.b4.cell 1 _ rfl; have hx2 := hSW.b5.cell 0 _ rfl; have hx3 := hSW.b5.cell 1 _ rfl; have hx4 := hSW.b8.cell 0 _ rfl; have hx5 := hSW.b8.cell 1 _ rfl; have hl1 := hSW.b4.lt; have hl2 := hSW.b5.lt; have hl3 := hSW.b8.lt; go_simp) <;> with_reducible rfl)))
      (refine wpAnyH_ready (rs := [19]) (by kernel_rfl) (by simp) ?_; refine AllReadyH.cons rfl (fun K hK => ?_) AllReadyH.nil)
      go_simp
      go_at_call 38
      refine Calls.mono (words_yes hS.z5 hS.z3 hzl hz5) ?_
      rintro e w9 ⟨rfl, mm, hw9⟩
      have hb9 : Below _ _ w9 := hw9 ▸ below_drewN _ mm
      clear hw9
      refine hK.out _ _ (hS.keep hb9) (fun hS => ?_)
      (refine wpAnyH_take (i := 20) (v := ?_) rfl (by kernel_rfl) (by kernel_rfl) (by kernel_rfl) (fun _ _ _ h => h) (Or.inl ⟨by kernel_rfl, ?_⟩) hS ?_; rotate_left; (focus ((intro W9 hSW; have hx1 := hSW.b4.cell 1 _ rfl; have hx2 := hSW.b5.cell 0 _ rfl; have hx3 := hSW.b5.cell 1 _ rfl; have hx4 := hSW.b8.cell 0 _ rfl; have hx5 := hSW.b8.cell 1 _ rfl; have hl1 := hSW.b4.lt; have hl2 := hSW.b5.lt; have hl3 := hSW.b8.lt; go_simp) <;> with_reducible rfl)))
      (refine wpAnyH_take (i := 21) (v := ?_) rfl (by kernel_rfl) (by kernel_rfl) (by kernel_rfl) (fun _ _ _ h => h) (Or.inl ⟨by kernel_rfl, ?_⟩) hS ?_; rotate_left; (focus ((intro W9 hSW; have hx1 := hSW.b4.cell 1 _ rfl; have hx2 := hSW.b5.cell 0 _ rfl; have hx3 := hSW.b5.cell 1 _ rfl; have hx4 := hSW.b8.cell 0 _ rfl; have hx5 := hSW.b8.cell 1 _ rfl; have hl1 := hSW.b4.lt; have hl2 := hSW.b5.lt; have hl3 := hSW.b8.lt; go_simp) <;> with_reducible rfl)))
      (refine wpAnyH_take (i := 22) (v := ?_) rfl (by kernel_rfl) (by kernel_rfl) (by kernel_rfl) (fun _ _ _ h => h) (Or.inl ⟨by kernel_rfl, ?_⟩) hS ?_; rotate_left; (focus ((intro W9 hSW; have hx1 := hSW.b4.cell 1 _ rfl; have hx2 := hSW.b5.cell 0 _ rfl; have hx3 := hSW.b5.cell 1 _ rfl; have hx4 := hSW.b8.cell 0 _ rfl; have hx5 := hSW.b8.cell 1 _ rfl; have hl1 := hSW.b4.lt; have hl2 := hSW.b5.lt; have hl3 := hSW.b8.lt; go_simp) <;> with_reducible rfl)))
      (refine wpAnyH_take (i := 23) (v := ?_) rfl (by kernel_rfl) (by kernel_rfl) (by kernel_rfl) (fun _ _ _ h => h) (Or.inl ⟨by kernel_rfl, ?_⟩) hS ?_; rotate_left; (focus ((intro W9 hSW; have hx1 := hSW.b4.cell 1 _ rfl; have hx2 := hSW.b5.cell 0 _ rfl; have hx3 := hSW.b5.cell 1 _ rfl; have hx4 := hSW.b8.cell 0 _ rfl; have hx5 := hSW.b8.cell 1 _ rfl; have hl1 := hSW.b4.lt; have hl2 := hSW.b5.lt; have hl3 := hSW.b8.lt; go_simp) <;> with_reducible rfl)))
      (refine wpAnyH_take (i := 25) (v := ?_) rfl (by kernel_rfl) (by kernel_rfl) (by kernel_rfl) (fun _ _ _ h => h) (Or.inl ⟨by kernel_rfl, ?_⟩) hS ?_; rotate_left; (focus ((intro W9 hSW; have hx1 := hSW.b4.cell 1 _ rfl; have hx2 := hSW.b5.cell 0 _ rfl; have hx3 := hSW.b5.cell 1 _ rfl; have hx4 := hSW.b8.cell 0 _ rfl; have hx5 := hSW.b8.cell 1 _ rfl; have hl1 := hSW.b4.lt; have hl2 := hSW.b5.lt; have hl3 := hSW.b8.lt; go_simp) <;> with_reducible rfl)))
      (refine wpAnyH_take (i := 26) (v := ?_) rfl (by kernel_rfl) (by kernel_rfl) (by kernel_rfl) (fun _ _ _ h => h) (Or.inl ⟨by kernel_rfl, ?_⟩) hS ?_; rotate_left; (focus ((intro W9 hSW; have hx1 := hSW.b4.cell 1 _ rfl; have hx2 := hSW.b5.cell 0 _ rfl; have hx3 := hSW.b5.cell 1 _ rfl; have hx4 := hSW.b8.cell 0 _ rfl; have hx5 := hSW.b8.cell 1 _ rfl; have hl1 := hSW.b4.lt; have hl2 := hSW.b5.lt; have hl3 := hSW.b8.lt; go_simp) <;> with_reducible rfl)))
      (refine wpAnyH_take (i := 28) (v := ?_) rfl (by kernel_rfl) (by kernel_rfl) (by kernel_rfl) (fun _ _ _ h => h) (Or.inl ⟨by kernel_rfl, ?_⟩) hS ?_; rotate_left; (focus ((intro W9 hSW; have hx1 := hSW.b4.cell 1 _ rfl; have hx2 := hSW.b5.cell 0 _ rfl; have hx3 := hSW.b5.cell 1 _ rfl; have hx4 := hSW.b8.cell 0 _ rfl; have hx5 := hSW.b8.cell 1 _ rfl; have hl1 := hSW.b4.lt; have hl2 := hSW.b5.lt; have hl3 := hSW.b8.lt; go_simp) <;> with_reducible rfl)))
      (refine wpAnyH_take (i := 29) (v := ?_) rfl (by kernel_rfl) (by kernel_rfl) (by kernel_rfl) (fun _ _ _ h => h) (Or.inl ⟨by kernel_rfl, ?_⟩) hS ?_; rotate_left; (focus ((intro W9 hSW; have hx1 := hSW.b4.cell 1 _ rfl; have hx2 := hSW.b5.cell 0 _ rfl; have hx3 := hSW.b5.cell 1 _ rfl; have hx4 := hSW.b8.cell 0 _ rfl; have hx5 := hSW.b8.cell 1 _ rfl; have hl1 := hSW.b4.lt; have hl2 := hSW.b5.lt; have hl3 := hSW.b8.lt; go_simp) <;> with_reducible rfl)))
      (refine wpAnyH_ready (rs := [24]) (by kernel_rfl) (by simp) ?_; refine AllReadyH.cons rfl (fun K hK => ?_) AllReadyH.nil)
      go_simp
      have ho := World.ownsRow_lit (e := 22) (size := 1) (base := w9.heap.size) w9 #[] 0 (Nat.le_refl _) (Nat.zero_le _) rfl
      have hal := (Below.refl w9.heap.size w9).alloc (Nat.le_refl _) (.cells #[] 22)
      have hSb := hS
      refine hK.out _ _ (hSb.keep hal) (fun hS => ?_)
      (refine wpAnyH_ready (rs := [27]) (by kernel_rfl) (by simp) ?_; refine AllReadyH.cons rfl (fun K hK => ?_) AllReadyH.nil)
      refine step_app_rowU (xs := []) (by kernel_rfl) (.tmp 86) (.tmp 88) rfl rfl rfl ho hS.u1 hk1 (by omega) hal.size ?_
      intro A7 n7 c7' w10 ho7 hg7
      have hal7 := hal.trans (below_grownO hg7 (fun b hb => (ho.lt b hb).1) hal.size)
      refine hK.out _ _ (hSb.keep hal7) (fun hS => ?_)
      (refine wpAnyH_ready (rs := [30]) (by kernel_rfl) (by simp) ?_; refine AllReadyH.cons rfl (fun K hK => ?_) AllReadyH.nil)
      refine step_app_rowU (by kernel_rfl) (.tmp 89) (.tmp 91) rfl rfl rfl ho7 hS.u2 hk2 (by omega) hal7.size ?_
      intro A8 n8 c8 w11 ho8 hg8
      have hal8 := hal7.trans (below_grownO hg8 (fun b hb => (ho7.lt b hb).1) hal7.size)
      refine hK.out _ _ (hSb.keep hal8) (fun hS => ?_)
      have hlo : (R1.O ++ R2.O).length = k1 + k2 := by rw [List.length_append, hk1, hk2]
      rw [List.nil_append, Nat.zero_add, ← hlo] at ho8
      obtain ⟨A9, c9, e9, -, hr9⟩ := own_read ho8
      injection e9 with e1 e2 e3
      subst e1
      rw [hlo] at e2
      subst e2
      (refine wpAnyH_ready (rs := [31]) (by kernel_rfl) (by simp) ?_; refine AllReadyH.cons rfl (fun K hK => ?_) AllReadyH.nil)
      go_simp
      go_at_call 38
      refine Calls.mono (words_yes hS.u3 hr9 hlo (by omega)) ?_
      rintro e w12 ⟨rfl, mm2, hw12⟩
      have hb12 : Below w11.heap.size w11 w12 := hw12 ▸ below_drewN w11 mm2
      clear hw12
      refine hK.out _ _ (hS.keep hb12) (fun hS => ?_)
      (refine wpAnyH_take (i := 32) (v := ?_) rfl (by kernel_rfl) (by kernel_rfl) (by kernel_rfl) (fun _ _ _ h => h) (Or.inl ⟨by kernel_rfl, ?_⟩) hS ?_; rotate_left; (focus ((intro W9 hSW; have hx1 := hSW.b4.cell 1 _ rfl; have hx2 := hSW.b5.cell 0 _ rfl; have hx3 := hSW.b5.cell 1 _ rfl; have hx4 := hSW.b8.cell 0 _ rfl; have hx5 := hSW.b8.cell 1 _ rfl; have hl1 := hSW.b4.lt; have hl2 := hSW.b5.lt; have hl3 := hSW.b8.lt; go_simp) <;> with_reducible rfl)))
      (refine wpAnyH_take (i := 33) (v := ?_) rfl (by kernel_rfl) (by kernel_rfl) (by kernel_rfl) (fun _ _ _ h => h) (Or.inl ⟨by kernel_rfl, ?_⟩) hS ?_; rotate_left; (focus ((intro W9 hSW; have hx1 := hSW.b4.cell 1 _ rfl; have hx2 := hSW.b5.cell 0 _ rfl; have hx3 := hSW.b5.cell 1 _ rfl; have hx4 := hSW.b8.cell 0 _ rfl; have hx5 := hSW.b8.cell 1 _ rfl; have hl1 := hSW.b4.lt; have hl2 := hSW.b5.lt; have hl3 := hSW.b8.lt; go_simp) <;> with_reducible rfl)))
      refine wpAnyH_done (by kernel_rfl) ?_ _
      have hfin := hS.bel
      go_wp2
      go_ret
      exact ⟨rfl, hfin⟩
    · have he0 : ¬ (R2.err : Int) = 0 := by omega
      have hed : decide ((R2.err : Int) = 0) = false := decide_eq_false he0
      have hB := hL.below
      clear hL hjt hrb
      go_wp2
      go_ret
      exact ⟨rfl, hB⟩
  · have he0 : ¬ (R1.err : Int) = 0 := by omega
    have hed : decide ((R1.err : Int) = 0) = false := decide_eq_false he0
    have hB := hL.below
    clear hL hjt hrb
    go_wp2
    go_ret
    exact ⟨rfl, hB⟩
end Go.Proofs.YtobokaafmcfeaaaGreatDoor
namespace Go.Proofs.YtobokaafmcfeaaaGreatDoor
open Go.RowKit Go.Cal
set_option maxRecDepth 100000 in
set_option maxHeartbeats 4000000 in
theorem scriptJoins_no (idv : Int) (va vb : Value) (w : World) (hW : VaW w) (ha : ArgB w va) (hb : ArgB w vb) (hid : idv < 1 ∨ 4 < idv) : Calls Tryz.prog 10 #[.int .i64 idv, va, vb] w fun e w' => e = .returned (.bool true) ∧ Below w.heap.size w w' := by
  obtain ⟨A, c, k, l, rfl, hr, hmi, hmc, hcm, hl⟩ := ha.cut 400
  obtain ⟨B, d, j, m, rfl, hs, hni, hnc, hdm, hm⟩ := hb.cut 400
  obtain ⟨n, hn⟩ : ∃ n, l.length = n := ⟨_, rfl⟩
  obtain ⟨q, hq⟩ : ∃ q, m.length = q := ⟨_, rfl⟩
  have hsl := fun w => slice_head A k c (l.length : Int) w (by omega) hmc
  have hsm := fun w => slice_head B j d (m.length : Int) w (by omega) hnc
  simp only [hn, hq, Int.toNat_natCast] at hsl hsm
  rw [hn] at hmi hmc hl
  rw [hq] at hni hnc hm
  replace hmi : min (k : Int) 400 = (n : Int) := hmi
  replace hni : min (j : Int) 400 = (q : Int) := hni
  have hsh := Lib.hid (shown19_any w hW)
  have hfm := Lib.hid fun (W : World) (v : Value) (hb : Below w.heap.size w W) => run_form idv hid v W (hW.below hb)
  have hL := (LiveP.start w).put (pR_st B m) hs
  clear hW hr hs hid
  go_enter Tryz.func10, Tryz.ntmps10
  go_wp2_with fail
  refine hsh.out.mono ?_
  rintro e w1 ⟨rfl, hb1⟩
  clear hsh
  replace hL := hL.go hb1
  have hrl := (hL.go ((Below.refl _ _).alloc (Nat.le_refl _) (.cells #[.int .u8 0] 5))).get (P := pR B m) (by repeat (first | exact List.mem_cons_self | apply List.mem_cons_of_mem))
  clear hb1
  go_wp2_with (at_builtin; refine wpList_app rfl _ _ rfl w1.heap.size [0] m rfl rfl rfl hq.symm ?own hrl ?hbase ?hsz ?_)
  case own => exact ownB_lit _ _ [0] _ _ _ rfl (Nat.le_refl _) (by decide) (.inr rfl)
  case hbase => simp
  case hsz => simp; omega
  intro g3 c3 w3 how hb
  have hX := ((Below.refl w1.heap.size w1).alloc (Nat.le_refl _) (.cells #[.int .u8 0] 5)).trans hb
  replace hL := hL.go hX
  clear hb how hrl hX
  have hc := Lib.hid (hfm.out _ (.slice A n c) hL.below)
  go_wp2_with fail
  refine hc.out.mono ?_
  rintro e w4 ⟨rfl, hb⟩
  replace hL := (hL.go hb).go ((Below.refl _ _).alloc (Nat.le_refl _) (.cells #[.slice none 0 0, .slice none 0 0] 57))
  clear hc hb
  have hc := Lib.hid fun v => hfm.out _ v hL.below
  clear hfm
  go_wp2_with fail
  refine (hc.out _).mono ?_
  rintro e w5 ⟨rfl, hb⟩
  replace hL := (hL.go hb).go ((Below.refl _ _).alloc (Nat.le_refl _) (.cells #[.slice none 0 0, .slice none 0 0] 57))
  have hB := hL.below
  clear hc hb hL
  go_wp2
  go_ret
  exact ⟨rfl, hB⟩
theorem scriptJoins_any (idv : Int) (va vb : Value) (w : World) (hW : VaW w) (ha : ArgB w va) (hb : ArgB w vb) : Calls Tryz.prog 10 #[.int .i64 idv, va, vb] w fun e w' => e = .returned (.bool true) ∧ Below w.heap.size w w' := by
  by_cases h : idv < 1 ∨ 4 < idv
  · exact scriptJoins_no idv va vb w hW ha hb h
  · exact scriptJoins_yes idv va vb w hW ha hb (by omega) (by omega)
end Go.Proofs.YtobokaafmcfeaaaGreatDoor
