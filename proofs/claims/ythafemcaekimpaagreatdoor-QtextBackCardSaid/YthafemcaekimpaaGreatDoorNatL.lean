/- The nat layer: Div. Conditions: lengths below 2^36. -/
import Derived.Test.YthafemcaekimpaaGreatDoorNatK
import Derived.Test.YthafemcaekimpaaGreatDoorDivL
namespace Go.Proofs.YthafemcaekimpaaGreatDoor
open Go.RowKit Go.Cal
/-- What Div tells. -/
def RetDiv (w : World) (X Y : Nat) (e : Ending) (w' : World) : Prop :=
  if Y = 0 then e = .returned (.tuple #[.slice none 0 0, .slice none 0 0, .bool false]) ∧ Below w.heap.size w w'
  else ∃ A c zs A' c' rs, e = .returned (.tuple #[.slice A (zs : List Nat).length c, .slice A' (rs : List Nat).length c', .bool true]) ∧ GotW w' w.heap.size A c zs ∧ Nrm zs (X / Y) ∧ GotW w' w.heap.size A' c' rs ∧ Nrm rs (X % Y) ∧ Below w.heap.size w w'
theorem RetDiv.none {w w' : World} {X Y : Nat} (h : Y = 0) (hb : Below w.heap.size w w') : RetDiv w X Y (.returned (.tuple #[.slice none 0 0, .slice none 0 0, .bool false])) w' := by
  unfold RetDiv
  rw [if_pos h]
  exact ⟨rfl, hb⟩
theorem RetDiv.some {w w' : World} {X Y : Nat} {A A' : Option Addr} {c c' : Nat} {zs rs : List Nat} (h : 0 < Y) (g : GotW w' w.heap.size A c zs) (n : Nrm zs (X / Y)) (g' : GotW w' w.heap.size A' c' rs) (n' : Nrm rs (X % Y)) (hb : Below w.heap.size w w') :
    RetDiv w X Y (.returned (.tuple #[.slice A zs.length c, .slice A' rs.length c', .bool true])) w' := by
  unfold RetDiv
  rw [if_neg (by omega)]
  exact ⟨A, c, zs, A', c', rs, rfl, g, n, g', n', hb⟩
theorem gotU_toW {w : World} {base : Nat} {A : Option Addr} {c : Nat} {zs : List Nat} (h : GotU w base A c zs) : GotW w base A c zs :=
  ⟨h.rd, h.cap, by have := h.small; unfold maxLen; omega, h.own⟩
theorem GotW.below {w w' : World} {base : Nat} {A : Option Addr} {c : Nat} {zs : List Nat} (h : GotW w base A c zs) (hb : Below w.heap.size w w') : GotW w' base A c zs := by
  refine ⟨(h.rd.below hb).more hb.size, h.cap, h.small, h.own.imp id ?_⟩
  rintro ⟨b, off, rfl, h1, h2⟩
  refine ⟨b, off, rfl, h1, fun i hi => ?_⟩
  obtain ⟨b', off', e, hlt, _⟩ := h.rd.at hi
  injection e with e
  injection e with e1 e2
  subst e1; subst e2
  rw [hb.frozen (p := ⟨b, off + i, none⟩) hlt]
  exact h2 i hi
theorem GotW.nil (w : World) (base : Nat) : GotW w base none 0 [] := ⟨.nil, Nat.le_refl _, by unfold maxLen; omega, .inl rfl⟩
theorem nrm_len_le {xs ys : List Nat} {M N : Nat} (h : Nrm xs M) (k : Nrm ys N) (hMN : M ≤ N) : xs.length ≤ ys.length := by
  rcases Nat.lt_or_ge ys.length xs.length with hlt | hge
  · have := vl_lt_of_length (b := 18446744073709551616) (by omega) k.dig h.top hlt
    rw [h.val, k.val] at this
    omega
  · exact hge
theorem len_pow {xs : List Nat} {N s k : Nat} (h : Nrm xs (N * 2 ^ s)) (hN : N < 18446744073709551616 ^ k) (hs : s ≤ 64) : xs.length ≤ k + 1 := by
  refine h.length_le ?_
  rw [Nat.pow_succ]
  have h1 : 2 ^ s ≤ 18446744073709551616 := Nat.pow_le_pow_right (n := 2) (i := s) (j := 64) (by omega) hs
  have h2 : N * 2 ^ s ≤ N * 18446744073709551616 := Nat.mul_le_mul_left _ h1
  have h3 : N * 18446744073709551616 < 18446744073709551616 ^ k * 18446744073709551616 := Nat.mul_lt_mul_of_pos_right hN (by omega)
  omega
/-- What was made, whole, without its noughts; the world is as it was. -/
theorem trim_kept {wr : World} {g n N base : Nat} {L : List Nat} (c : Nat) (hB : BlkU wr g 37 L) (hg : base ≤ g) (hl : L.length = n) (hc : n ≤ c) (hn : n ≤ 1099511627776) (hd : Dig 18446744073709551616 L) (hv : vl 18446744073709551616 L = N) :
    Calls Tryz.prog 38 #[.slice (some ⟨g, 0, none⟩) n c] wr fun e w' => (∃ A c zs, e = .returned (.slice A (zs : List Nat).length c) ∧ GotU wr base A c zs ∧ Nrm zs N) ∧ wr = w' := by
  subst hl
  have hrd := hB.rd 0 L.length (by omega)
  simp at hrd
  refine (trim_any c wr hrd hc (by omega)).mono ?_
  rintro e w1 ⟨⟨zs, rfl, ⟨k, rfl⟩, ht, h4⟩, rfl⟩
  have hk := hB.got base (min k L.length) hg (by omega) (by omega)
  have e1 : L.take (min k L.length) = L.take k := by
    rw [← List.take_take, List.take_of_length_le (Nat.le_refl L.length)]
  rw [e1] at hk
  refine ⟨⟨_, _, L.take k, rfl, ?_, ⟨dig_take hd k, ht, (h4 _).trans hv⟩⟩, rfl⟩
  rw [List.length_take]
  exact hk
theorem rd_cells {w : World} {B b off : Nat} {xs : List Nat} (h : RdU w B (some ⟨b, off, none⟩) xs) (hB : B ≤ w.heap.size) (o : Obj) (j : Nat) (u : Value) (hj : (lU xs)[j]? = some u) : (w.alloc o).cell? ((⟨b, off, none⟩ : Addr).add j) = some u := by
  rcases Nat.lt_or_ge j xs.length with hlt | hge
  · rw [lU_get xs j hlt] at hj
    injection hj with hj
    subst hj
    rw [Addr.add_lit]
    obtain ⟨b', o', e, hb', hc⟩ := h.at hlt
    injection e with e
    injection e with e1 e2
    subst e1; subst e2
    rw [World.cell?_alloc_past _ _ _ (Nat.lt_of_lt_of_le hb' hB)]
    exact hc j hlt
  · rw [List.getElem?_eq_none (by rw [lU_len]; exact hge)] at hj
    cases hj
set_option maxRecDepth 100000 in
set_option maxHeartbeats 2000000 in
theorem div_any {A1 A2 : Option Addr} {xs ys : List Nat} (c1 c2 : Nat) (w : World) (h1 : RdU w w.heap.size A1 xs) (h2 : RdU w w.heap.size A2 ys) (hc1 : xs.length ≤ c1) (hc2 : ys.length ≤ c2) (hn1 : xs.length ≤ 68719476736) (hn2 : ys.length ≤ 68719476736)
    (d1 : Dig 18446744073709551616 xs) (d2 : Dig 18446744073709551616 ys) :
    Calls Tryz.prog 92 #[.slice A1 xs.length c1, .slice A2 ys.length c2] w (RetDiv w (vl 18446744073709551616 xs) (vl 18446744073709551616 ys)) := by
  go_enter Tryz.func92, Tryz.ntmps92
  go_wp2_with fail
  refine (trim_nat _ _ h1 hc1 (by omega) d1).mono ?_
  rintro e w1 ⟨⟨zs1, rfl, r1, t1, e1, v1, l1⟩, rfl⟩
  go_wp2_with fail
  refine (trim_nat _ _ h2 hc2 (by omega) d2).mono ?_
  rintro e w1 ⟨⟨zs2, rfl, r2, t2, e2, v2, l2⟩, rfl⟩
  by_cases h0 : zs2.length = 0
  · obtain rfl := List.eq_nil_of_length_eq_zero h0
    have hY := Lib.hid (show vl 18446744073709551616 ys = 0 by rw [← v2]; rfl)
    clear v1 v2 r2 h2 d2 d1 h0
    go_wp2
    go_ret3
    exact .none hY.out (.refl _ _)
  have hY : 0 < vl 18446744073709551616 ys := by
    rw [← v2]
    have := vl_pos (b := 18446744073709551616) t2 (by intro e; subst e; exact h0 rfl)
    have := Nat.pow_pos (n := zs2.length - 1) (show 0 < 18446744073709551616 by omega)
    omega
  have h0' : ((zs2.length : Int) == 0) = false := by simpa using h0
  replace h0 : 0 < zs2.length := Nat.pos_of_ne_zero h0
  replace v1 := Lib.hid v1
  replace v2 := Lib.hid v2
  clear h1 h2 d1 d2
  go_wp2_with fail
  refine (cmp_any zs1.length zs2.length w r1 r2 (Nat.le_refl _) (Nat.le_refl _) (by omega) (by omega) e1 e2).mono ?_
  rintro e w1 ⟨rfl, hd⟩
  have hb1 := hd.below w.heap.size
  have hz1 := hb1.size
  replace r1 := (r1.drawn hd).more hz1
  replace r2 := (r2.drawn hd).more hz1
  clear hd
  by_cases hlt : vl 18446744073709551616 xs < vl 18446744073709551616 ys
  · have hc := Lib.hid (cmpV_lt (a := ((vl 18446744073709551616 zs1 : Nat) : Int)) (b := ((vl 18446744073709551616 zs2 : Nat) : Int)) (by rw [v1.out, v2.out]; omega))
    rw [hc.out]
    go_wp2_with fail
    refine (clone_any zs1.length w1 r1 (by omega) (fun e => ?_)).mono ?_
    · subst e
      rcases r1.place with h0 | ⟨_, _, h0, _⟩
      · rw [h0]; rfl
      · cases h0
    rintro e w2 ⟨A', c', rfl, hg, hb⟩
    go_wp2
    go_ret3
    exact .some hY (.nil _ _) (by rw [Nat.div_eq_of_lt hlt]; exact .zero) (gotW_base hg hz1) ⟨e1, t1, by rw [v1.out, Nat.mod_eq_of_lt hlt]⟩ (chain hb1 hb)
  have hge : 0 ≤ cmpV ((vl 18446744073709551616 zs1 : Nat) : Int) ((vl 18446744073709551616 zs2 : Nat) : Int) := by
    rw [v1.out, v2.out]
    rcases cmpV_cases ((vl 18446744073709551616 xs : Nat) : Int) ((vl 18446744073709551616 ys : Nat) : Int) with h | h | h <;> omega
  generalize cmpV ((vl 18446744073709551616 zs1 : Nat) : Int) ((vl 18446744073709551616 zs2 : Nat) : Int) = cv at hge ⊢
  by_cases hone : zs2.length = 1
  · obtain ⟨y, rfl⟩ : ∃ y, zs2 = [y] := by
      match zs2, hone with
      | [y], _ => exact ⟨y, rfl⟩
    have hyb : y < 18446744073709551616 := e2 y (by simp)
    have hyv := v2.out
    simp only [vl, Nat.mul_zero, Nat.add_zero] at hyv
    obtain ⟨b, off, rfl, hb, hcy⟩ := r2.at (i := 0) (by simp)
    have hcy0 := hcy 0 (by simp)
    simp only [Nat.add_zero, List.getD_cons_zero] at hcy0
    clear hcy r2 h0' hone
    replace hyv := Lib.hid hyv
    go_wp2_with fail
    refine (short_any zs1.length y w1 r1 (by omega) e1 (by rw [hyv.out]; exact hY) hyb).mono ?_
    rintro e w2 ⟨A, c, qs, rfl, hg, hn, hb2⟩
    have hz2 := hb2.size
    go_wp2_with fail
    refine (of_any (vl 18446744073709551616 zs1 % y) (by have := Nat.mod_lt (vl 18446744073709551616 zs1) (show 0 < y by rw [hyv.out]; exact hY); omega) w2).mono ?_
    rintro e w3 ⟨A', c', rs, rfl, hg', hn', hb3⟩
    go_wp2
    go_ret3
    rw [v1.out, hyv.out] at hn hn'
    exact .some hY (gotW_base ((gotU_toW hg).below hb3) hz1) hn (gotW_base hg' (by omega)) hn' (chain hb1 (chain hb2 hb3))
  -- the general case
  have hone' : ((zs2.length : Int) == 1) = false := by simp; omega
  obtain ⟨m, hm⟩ : ∃ m, zs2.length = m + 1 := ⟨zs2.length - 1, by omega⟩
  obtain ⟨y, hy⟩ : ∃ y, zs2.getD m 0 = y := ⟨_, rfl⟩
  have hy0 : 0 < y := by
    have := t2 (by intro e; subst e; simp at hm)
    rw [List.getLast_eq_getElem] at this
    have e : zs2.getD m 0 = zs2[zs2.length - 1]'(by omega) := by
      rw [List.getD_eq_getElem?_getD, List.getElem?_eq_getElem (by omega)]
      simp [hm]
    rw [← hy, e]
    omega
  have hyb : y < 18446744073709551616 := hy ▸ dig_getD (by omega) e2 m
  obtain ⟨b, off, rfl, hb, hcy⟩ := r2.at (i := m) (by omega)
  have hcy0 := hcy m (by omega)
  rw [hy] at hcy0
  clear hcy hone
  have hml : (m : Int) < (zs2.length : Int) := by omega
  have hmi : (zs2.length : Int) - 1 = (m : Int) := by omega
  replace hy := Lib.hid hy
  replace hm := Lib.hid hm
  go_wp2_with fail
  refine (lz64_any y hy0 hyb w1).mono ?_
  rintro e w2 ⟨⟨s, hs, hs1, hs2, rfl⟩, rfl⟩
  clear hcy0 hmi hml hs1 hs2
  go_wp2_with fail
  refine (shl_in zs2.length s (by omega) w1 r2 (Nat.le_refl _) (by omega) e2).mono ?_
  rintro e w2 ⟨A3, c3, vs, rfl, gv, nv, hb2⟩
  have hz2 := hb2.size
  have r1' := (r1.below hb2).more hz2
  go_wp2_with fail
  refine (shl_in zs1.length s (by omega) w2 r1' (Nat.le_refl _) (by omega) e1).mono ?_
  rintro e w3 ⟨A4, c4, us, rfl, gu, nu, hb3⟩
  have hz3 := hb3.size
  have gv' := gv.below hb3
  have hx0 : vl 18446744073709551616 ys ≤ vl 18446744073709551616 xs := Nat.le_of_not_lt hlt
  have hlen : vs.length ≤ us.length := nrm_len_le nv nu (Nat.mul_le_mul_right _ (by rw [v1.out, v2.out]; exact hx0))
  have hlx : vl 18446744073709551616 zs1 < 18446744073709551616 ^ zs1.length := vl_lt e1
  have hlu := len_pow nu hlx (by omega)
  have hv0 : vs ≠ [] := by
    intro e
    subst e
    have h := nv.val
    rw [v2.out] at h
    have : 0 < vl 18446744073709551616 ys * 2 ^ s := Nat.mul_pos hY (Nat.two_pow_pos s)
    simp [vl] at h
    omega
  have hvl : 0 < vs.length := List.length_pos_iff.2 hv0
  obtain ⟨bu, ou, rfl, hbu, _⟩ := gu.rd.at (i := 0) (by omega)
  obtain ⟨q, hq⟩ : ∃ q, q + vs.length = us.length + 1 := ⟨us.length + 1 - vs.length, by omega⟩
  obtain ⟨i0, hi, hz0, hzz1, hzz2⟩ := info_parts info_u64
  have hcu := gu.full
  subst hcu
  replace hlx := Lib.hid hlx
  replace hq := Lib.hid hq
  replace hv0 := Lib.hid hv0
  go_wp2_with (at_builtin; refine wpList_append_grows _ rfl _ _ 23 rfl 37 i0 (.int .u64 0) 1 8 under_nat hi hz0 hzz1 hzz2 rfl (by decide) (some ⟨bu, ou, none⟩) us.length us.length (lU us) rfl (fun h => by cases h) (by rw [lU_len, Nat.mul_one]) ?hold ⟨w3.heap.size, 0, none⟩ 1 1 [.int .u64 0] rfl rfl ?c2 ?c3 ?c4 ?c5 ?c6 ?_)
  case hold => intro b e j u hj; injection e with e; subst e; exact rd_cells gu.rd (Nat.le_refl _) _ j u hj
  case c2 =>
    intro j u hj
    rcases j with _ | j
    · simp at hj
      subst hj
      simp [Addr.add_lit]
    · simp at hj
  case c3 => intro u hu; simp at hu; subst hu; rfl
  case c4 => omega
  case c5 => unfold maxLen; omega
  case c6 => omega
  intro v' w5 hown hgr
  have hb5 : Below w3.heap.size w3 w5 := ((Below.refl _ _).alloc (Nat.le_refl _) _).grown hgr (by simp) (fun j hj => by cases hj)
  have el : lU us ++ [.int .u64 0] = lU (us ++ [0]) := by simp [lU]
  have el2 : us.length + 1 = (us ++ [0]).length := by simp
  rw [el, el2] at hown
  obtain ⟨g, cu, rfl, hBu, hgu, hcu⟩ := blkU_of_own hown (by simp)
  rw [← el2]
  rw [← el2] at hcu
  clear hown el el2 hi hz0 hzz1 hzz2 hgr
  have hz5 := hb5.size
  have rv5 := gv'.rd.below hb5
  have gub : g < w5.heap.size := hBu.lt
  have hqi : (us.length : Int) + 1 - (vs.length : Int) = (q : Int) := by have := hq.out; omega
  have hmk := run_makeU (P := Tryz.prog) 23 37 under_nat info_u64 q (by have := hq.out; omega)
  clear gv gv' r1 r1' r2 hb hbu
  go_wp2
  clear hmk
  go_loopw [13] (fun kv wr => ∃ (j : Nat) (L Q : List Nat), j ≤ q ∧ kv = .int .i64 ((j : Int) - 1) ∧ BlkU wr g 37 L ∧ BlkU wr w5.heap.size 37 Q ∧ RdU wr w3.heap.size A3 vs ∧ Below w3.heap.size w3 wr ∧ DivRel 18446744073709551616 vs us.length q (vl 18446744073709551616 us) L Q j) (fun kv _ => (intOf kv + 1).toNat)
  case atStart => exact ⟨q, _, _, Nat.le_refl _, rfl, hBu.alloc _, BlkU.made w5 37 q, rv5.alloc hz5 _, hb5.alloc hz5 _, .start (by omega) nu.dig nv.top hv0.out hq.out⟩
  case round =>
    obtain ⟨j, L, Q, hj, rfl, hBL, hBQ, rv, hbw, hR⟩ := hrel
    have hzw := hbw.size
    clear hBu rv5
    by_cases hj0 : j = 0
    · subst hj0
      obtain ⟨hd1, hd2⟩ := hR.done
      rw [nu.val, nv.val, v1.out, v2.out] at hd1 hd2
      rw [(shifted_div _ _ s).1] at hd1
      have hd3 := (shifted_div (vl 18446744073709551616 xs) (vl 18446744073709551616 ys) s).2
      rw [← hd2] at hd3
      replace hd1 := Lib.hid hd1
      replace hd2 := Lib.hid hd2
      replace hd3 := Lib.hid hd3
      have hql := hR.qlen
      have hll := hR.len
      have hrl := (hBL.rd 0 L.length (by omega)).more hBL.lt
      simp only [List.drop_zero, List.take_length] at hrl
      have hsh := shr_in cu s (by omega) wr hrl (by omega) hR.dig
      rw [hll] at hsh
      replace hll := Lib.hid hll
      replace hsh := Lib.hid hsh
      go_wp2_with fail
      refine (trim_kept (base := w.heap.size) q hBQ (by omega) hql (Nat.le_refl _) (by have := hq.out; omega) hR.qdig hd1.out).mono ?_
      rintro e w7 ⟨⟨A, c, zs, rfl, gz, nz⟩, rfl⟩
      go_wp2_with fail
      refine hsh.out.mono ?_
      rintro e w8 ⟨A', c', rs, rfl, gr, nr, hb8⟩
      rw [hd3.out] at nr
      go_wp2
      go_ret3
      exact .some hY ((gotU_toW gz).below hb8) nz (gotW_base (gotU_toW gr) (by omega)) nr (chain (chain (chain (chain hb1 hb2) hb3) hbw) hb8)
    · obtain ⟨j, rfl⟩ : ∃ k, j = k + 1 := ⟨j - 1, by omega⟩
      have hqn := hq.out
      have hll := hR.len
      have hql := hR.qlen
      have hj1 : j + vs.length + 1 ≤ us.length + 1 := by omega
      obtain ⟨_, _, hX⟩ := hR.win nv.dig hj1
      have hdg := fun c2 => digit_any (g := g) (k := j) (c := cu - j) (c2 := c2) (n := vs.length) wr hBL (by omega) rv (by omega) rfl hvl (by omega) hR.dig nv.dig hX
      rw [show ((j + 1 : Nat) : Int) - 1 = (j : Int) by omega]
      have h3 : (j : Int) + (vs.length : Int) + 1 ≤ (cu : Int) := by omega
      have h4 : (j : Int) ≤ (j : Int) + (vs.length : Int) + 1 := by omega
      have h5 : (j : Int) < (q : Int) := by omega
      replace hdg := Lib.hid hdg
      replace hll := Lib.hid hll
      replace hql := Lib.hid hql
      clear hqn hX
      have hQlt := hBQ.lt
      go_wp2_with fail
      rw [show j + vs.length + 1 - j = vs.length + 1 by omega]
      refine (hdg.out _).mono ?_
      rintro e w6 ⟨L', rfl, hBL', hW, dL', hss, hg⟩
      have hst := hR.step nv.dig hj1 (by omega) (by have := vl_pos (b := 18446744073709551616) nv.top hv0.out; have := Nat.pow_pos (n := vs.length - 1) (show 0 < 18446744073709551616 by omega); omega) hW dL' hss
      obtain ⟨d, hd⟩ : ∃ d, vl 18446744073709551616 ((L.drop j).take (vs.length + 1)) / vl 18446744073709551616 vs = d := ⟨_, rfl⟩
      rw [hd] at hst ⊢
      have hBQ' := hBQ.same (hg.block w5.heap.size hQlt (fun e => by injection e with e; omega))
      have rv' := rv.only hg (by omega) hzw
      have hb' := hbw.grown hg hzw (fun j hj => by injection hj with hj; omega)
      have hcell := hBQ'.cell j (by have := hql.out; omega)
      have hfr := hBQ'.frozen j
      have hfar : g ≠ w5.heap.size := by omega
      clear hss hd hR hdg hBQ rv hbw hBL hW hg
      replace hst := Lib.hid hst
      replace hfar := Lib.hid hfar
      go_wp2
      exact ⟨⟨j, L', Q.set j d, by omega, by go_num, hBL'.far hfar.out _, hBQ'.set j d, rv'.below ((Below.refl _ _).setCell (by omega) _), hb'.setCell (by omega) _, hst.out⟩, by simp [intOf]⟩
end Go.Proofs.YthafemcaekimpaaGreatDoor
