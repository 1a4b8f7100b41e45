/- The nat layer: Div. Conditions: lengths below 2^36. -/
/- The nat layer: Word, Bits, Bit, Even. Conditions: lengths below 2^36. -/
/- The nat layer: Pow. Conditions: none. -/
/- The numeral of a word: strconv.FormatUint at base 10. Condition: the table of powers reads as it is laid. -/
import Derived.Test.YtncfbleeidjflaaGreatDoorPz15
import Derived.Test.YtncfbleeidjflaaGreatDoorPz00
import Derived.Lib.AppendIntMem
namespace Go.Proofs.YtncfbleeidjflaaGreatDoor
open Go.RowKit Go.Cal
/-- What Div tells. -/
def RetDiv (w : World) (X Y : Nat) (e : Ending) (w' : World) : Prop :=
  if Y = 0 then e = .returned (.tuple #[.slice none 0 0, .slice none 0 0, .bool false]) ∧ Below w.heap.size w w'
  else ∃ A c zs A' c' rs, e = .returned (.tuple #[.slice A (zs : List Nat).length c, .slice A' (rs : List Nat).length c', .bool true]) ∧ GotW w' w.heap.size A c zs ∧ Nrm zs (X / Y) ∧ GotW w' w.heap.size A' c' rs ∧ Nrm rs (X % Y) ∧ Below w.heap.size w w'
theorem RetDiv.none {w w' : World} {X Y : Nat} (h : Y = 0) (hb : Below w.heap.size w w') : RetDiv w X Y (.returned (.tuple #[.slice none 0 0, .slice none 0 0, .bool false])) w' := by
  unfold RetDiv
  rw [if_pos h]
  exact ⟨rfl, hb⟩
theorem RetDiv.some {w w' : World} {X Y : Nat} {A A' : Option Addr} {c c' : Nat} {zs rs : List Nat} (h : 0 < Y) (g : GotW w' w.heap.size A c zs) (n : Nrm zs (X / Y)) (g' : GotW w' w.heap.size A' c' rs) (n' : Nrm rs (X % Y)) (hb : Below w.heap.size w w') :
    RetDiv w X Y (.returned (.tuple #[.slice A zs.length c, .slice A' rs.length c', .bool true])) w' := by
  unfold RetDiv
  rw [if_neg (by omega)]
  exact ⟨A, c, zs, A', c', rs, rfl, g, n, g', n', hb⟩
theorem gotU_toW {w : World} {base : Nat} {A : Option Addr} {c : Nat} {zs : List Nat} (h : GotU w base A c zs) : GotW w base A c zs :=
  ⟨h.rd, h.cap, by have := h.small; unfold maxLen; omega, h.own⟩
theorem GotW.below {w w' : World} {base : Nat} {A : Option Addr} {c : Nat} {zs : List Nat} (h : GotW w base A c zs) (hb : Below w.heap.size w w') : GotW w' base A c zs := by
  refine ⟨(h.rd.below hb).more hb.size, h.cap, h.small, h.own.imp id ?_⟩
  rintro ⟨b, off, rfl, h1, h2⟩
  refine ⟨b, off, rfl, h1, fun i hi => ?_⟩
  obtain ⟨b', off', e, hlt, _⟩ := h.rd.at hi
  injection e with e
  injection e with e1 e2
  subst e1; subst e2
  rw [hb.frozen (p := ⟨b, off + i, none⟩) hlt]
  exact h2 i hi
theorem GotW.nil (w : World) (base : Nat) : GotW w base none 0 [] := ⟨.nil, Nat.le_refl _, by unfold maxLen; omega, .inl rfl⟩
theorem nrm_len_le {xs ys : List Nat} {M N : Nat} (h : Nrm xs M) (k : Nrm ys N) (hMN : M ≤ N) : xs.length ≤ ys.length := by
  rcases Nat.lt_or_ge ys.length xs.length with hlt | hge
  · have := vl_lt_of_length (b := 18446744073709551616) (by omega) k.dig h.top hlt
    rw [h.val, k.val] at this
    omega
  · exact hge
theorem len_pow {xs : List Nat} {N s k : Nat} (h : Nrm xs (N * 2 ^ s)) (hN : N < 18446744073709551616 ^ k) (hs : s ≤ 64) : xs.length ≤ k + 1 := by
  refine h.length_le ?_
  rw [Nat.pow_succ]
  have h1 : 2 ^ s ≤ 18446744073709551616 := Nat.pow_le_pow_right (n := 2) (i := s) (j := 64) (by omega) hs
  have h2 : N * 2 ^ s ≤ N * 18446744073709551616 := Nat.mul_le_mul_left _ h1
  have h3 : N * 18446744073709551616 < 18446744073709551616 ^ k * 18446744073709551616 := Nat.mul_lt_mul_of_pos_right hN (by omega)
  omega
/-- What was made, whole, without its noughts; the world is as it was. -/
theorem trim_kept {wr : World} {g n N base : Nat} {L : List Nat} (c : Nat) (hB : BlkU wr g 22 L) (hg : base ≤ g) (hl : L.length = n) (hc : n ≤ c) (hn : n ≤ 1099511627776) (hd : Dig 18446744073709551616 L) (hv : vl 18446744073709551616 L = N) :
    Calls Tryz.prog 61 #[.slice (some ⟨g, 0, none⟩) n c] wr fun e w' => (∃ A c zs, e = .returned (.slice A (zs : List Nat).length c) ∧ GotU wr base A c zs ∧ Nrm zs N) ∧ wr = w' := by
  subst hl
  have hrd := hB.rd 0 L.length (by omega)
  simp at hrd
  refine (trim_any c wr hrd hc (by omega)).mono ?_
  rintro e w1 ⟨⟨zs, rfl, ⟨k, rfl⟩, ht, h4⟩, rfl⟩
  have hk := hB.got base (min k L.length) hg (by omega) (by omega)
  have e1 : L.take (min k L.length) = L.take k := by
    rw [← List.take_take, List.take_of_length_le (Nat.le_refl L.length)]
  rw [e1] at hk
  refine ⟨⟨_, _, L.take k, rfl, ?_, ⟨dig_take hd k, ht, (h4 _).trans hv⟩⟩, rfl⟩
  rw [List.length_take]
  exact hk
theorem rd_cells {w : World} {B b off : Nat} {xs : List Nat} (h : RdU w B (some ⟨b, off, none⟩) xs) (hB : B ≤ w.heap.size) (o : Obj) (j : Nat) (u : Value) (hj : (lU xs)[j]? = some u) : (w.alloc o).cell? ((⟨b, off, none⟩ : Addr).add j) = some u := by
  rcases Nat.lt_or_ge j xs.length with hlt | hge
  · rw [lU_get xs j hlt] at hj
    injection hj with hj
    subst hj
    rw [Addr.add_lit]
    obtain ⟨b', o', e, hb', hc⟩ := h.at hlt
    injection e with e
    injection e with e1 e2
    subst e1; subst e2
    rw [World.cell?_alloc_past _ _ _ (Nat.lt_of_lt_of_le hb' hB)]
    exact hc j hlt
  · rw [List.getElem?_eq_none (by rw [lU_len]; exact hge)] at hj
    cases hj
set_option maxRecDepth 100000 in
set_option maxHeartbeats 2000000 in
theorem div_any {A1 A2 : Option Addr} {xs ys : List Nat} (c1 c2 : Nat) (w : World) (h1 : RdU w w.heap.size A1 xs) (h2 : RdU w w.heap.size A2 ys) (hc1 : xs.length ≤ c1) (hc2 : ys.length ≤ c2) (hn1 : xs.length ≤ 68719476736) (hn2 : ys.length ≤ 68719476736)
    (d1 : Dig 18446744073709551616 xs) (d2 : Dig 18446744073709551616 ys) :
    Calls Tryz.prog 154 #[.slice A1 xs.length c1, .slice A2 ys.length c2] w (RetDiv w (vl 18446744073709551616 xs) (vl 18446744073709551616 ys)) := by
  go_enter Tryz.func154, Tryz.ntmps154
  go_wp2_with fail
  refine (trim_nat _ _ h1 hc1 (by omega) d1).mono ?_
  rintro e w1 ⟨⟨zs1, rfl, r1, t1, e1, v1, l1⟩, rfl⟩
  go_wp2_with fail
  refine (trim_nat _ _ h2 hc2 (by omega) d2).mono ?_
  rintro e w1 ⟨⟨zs2, rfl, r2, t2, e2, v2, l2⟩, rfl⟩
  by_cases h0 : zs2.length = 0
  · obtain rfl := List.eq_nil_of_length_eq_zero h0
    have hY := Lib.hid (show vl 18446744073709551616 ys = 0 by rw [← v2]; rfl)
    clear v1 v2 r2 h2 d2 d1 h0
    go_wp2
    go_ret3
    exact .none hY.out (.refl _ _)
  have hY : 0 < vl 18446744073709551616 ys := by
    rw [← v2]
    have := vl_pos (b := 18446744073709551616) t2 (by intro e; subst e; exact h0 rfl)
    have := Nat.pow_pos (n := zs2.length - 1) (show 0 < 18446744073709551616 by omega)
    omega
  have h0' : ((zs2.length : Int) == 0) = false := by simpa using h0
  replace h0 : 0 < zs2.length := Nat.pos_of_ne_zero h0
  replace v1 := Lib.hid v1
  replace v2 := Lib.hid v2
  clear h1 h2 d1 d2
  go_wp2_with fail
  refine (cmp_any zs1.length zs2.length w r1 r2 (Nat.le_refl _) (Nat.le_refl _) (by omega) (by omega) e1 e2).mono ?_
  rintro e w1 ⟨rfl, hd⟩
  have hb1 := hd.below w.heap.size
  have hz1 := hb1.size
  replace r1 := (r1.drawn hd).more hz1
  replace r2 := (r2.drawn hd).more hz1
  clear hd
  by_cases hlt : vl 18446744073709551616 xs < vl 18446744073709551616 ys
  · have hc := Lib.hid (cmpV_lt (a := ((vl 18446744073709551616 zs1 : Nat) : Int)) (b := ((vl 18446744073709551616 zs2 : Nat) : Int)) (by rw [v1.out, v2.out]; omega))
    rw [hc.out]
    go_wp2_with fail
    refine (clone_any zs1.length w1 r1 (by omega) (fun e => ?_)).mono ?_
    · subst e
      rcases r1.place with h0 | ⟨_, _, h0, _⟩
      · rw [h0]; rfl
      · cases h0
    rintro e w2 ⟨A', c', rfl, hg, hb⟩
    go_wp2
    go_ret3
    exact .some hY (.nil _ _) (by rw [Nat.div_eq_of_lt hlt]; exact .zero) (gotW_base hg hz1) ⟨e1, t1, by rw [v1.out, Nat.mod_eq_of_lt hlt]⟩ (chain hb1 hb)
  have hge : 0 ≤ cmpV ((vl 18446744073709551616 zs1 : Nat) : Int) ((vl 18446744073709551616 zs2 : Nat) : Int) := by
    rw [v1.out, v2.out]
    rcases cmpV_cases ((vl 18446744073709551616 xs : Nat) : Int) ((vl 18446744073709551616 ys : Nat) : Int) with h | h | h <;> omega
  generalize cmpV ((vl 18446744073709551616 zs1 : Nat) : Int) ((vl 18446744073709551616 zs2 : Nat) : Int) = cv at hge ⊢
  by_cases hone : zs2.length = 1
  · obtain ⟨y, rfl⟩ : ∃ y, zs2 = [y] := by
      match zs2, hone with
      | [y], _ => exact ⟨y, rfl⟩
    have hyb : y < 18446744073709551616 := e2 y (by simp)
    have hyv := v2.out
    simp only [vl, Nat.mul_zero, Nat.add_zero] at hyv
    obtain ⟨b, off, rfl, hb, hcy⟩ := r2.at (i := 0) (by simp)
    have hcy0 := hcy 0 (by simp)
    simp only [Nat.add_zero, List.getD_cons_zero] at hcy0
    clear hcy r2 h0' hone
    replace hyv := Lib.hid hyv
    go_wp2_with fail
    refine (short_any zs1.length y w1 r1 (by omega) e1 (by rw [hyv.out]; exact hY) hyb).mono ?_
    rintro e w2 ⟨A, c, qs, rfl, hg, hn, hb2⟩
    have hz2 := hb2.size
    go_wp2_with fail
    refine (of_any (vl 18446744073709551616 zs1 % y) (by have := Nat.mod_lt (vl 18446744073709551616 zs1) (show 0 < y by rw [hyv.out]; exact hY); omega) w2).mono ?_
    rintro e w3 ⟨A', c', rs, rfl, hg', hn', hb3⟩
    go_wp2
    go_ret3
    rw [v1.out, hyv.out] at hn hn'
    exact .some hY (gotW_base ((gotU_toW hg).below hb3) hz1) hn (gotW_base hg' (by omega)) hn' (chain hb1 (chain hb2 hb3))
  -- the general case
  have hone' : ((zs2.length : Int) == 1) = false := by simp; omega
  obtain ⟨m, hm⟩ : ∃ m, zs2.length = m + 1 := ⟨zs2.length - 1, by omega⟩
  obtain ⟨y, hy⟩ : ∃ y, zs2.getD m 0 = y := ⟨_, rfl⟩
  have hy0 : 0 < y := by
    have := t2 (by intro e; subst e; simp at hm)
    rw [List.getLast_eq_getElem] at this
    have e : zs2.getD m 0 = zs2[zs2.length - 1]'(by omega) := by
      rw [List.getD_eq_getElem?_getD, List.getElem?_eq_getElem (by omega)]
      simp [hm]
    rw [← hy, e]
    omega
  have hyb : y < 18446744073709551616 := hy ▸ dig_getD (by omega) e2 m
  obtain ⟨b, off, rfl, hb, hcy⟩ := r2.at (i := m) (by omega)
  have hcy0 := hcy m (by omega)
  rw [hy] at hcy0
  clear hcy hone
  have hml : (m : Int) < (zs2.length : Int) := by omega
  have hmi : (zs2.length : Int) - 1 = (m : Int) := by omega
  replace hy := Lib.hid hy
  replace hm := Lib.hid hm
  go_wp2_with fail
  refine (lz64_any y hy0 hyb w1).mono ?_
  rintro e w2 ⟨⟨s, hs, hs1, hs2, rfl⟩, rfl⟩
  clear hcy0 hmi hml hs1 hs2
  go_wp2_with fail
  refine (shl_in zs2.length s (by omega) w1 r2 (Nat.le_refl _) (by omega) e2).mono ?_
  rintro e w2 ⟨A3, c3, vs, rfl, gv, nv, hb2⟩
  have hz2 := hb2.size
  have r1' := (r1.below hb2).more hz2
  go_wp2_with fail
  refine (shl_in zs1.length s (by omega) w2 r1' (Nat.le_refl _) (by omega) e1).mono ?_
  rintro e w3 ⟨A4, c4, us, rfl, gu, nu, hb3⟩
  have hz3 := hb3.size
  have gv' := gv.below hb3
  have hx0 : vl 18446744073709551616 ys ≤ vl 18446744073709551616 xs := Nat.le_of_not_lt hlt
  have hlen : vs.length ≤ us.length := nrm_len_le nv nu (Nat.mul_le_mul_right _ (by rw [v1.out, v2.out]; exact hx0))
  have hlx : vl 18446744073709551616 zs1 < 18446744073709551616 ^ zs1.length := vl_lt e1
  have hlu := len_pow nu hlx (by omega)
  have hv0 : vs ≠ [] := by
    intro e
    subst e
    have h := nv.val
    rw [v2.out] at h
    have : 0 < vl 18446744073709551616 ys * 2 ^ s := Nat.mul_pos hY (Nat.two_pow_pos s)
    simp [vl] at h
    omega
  have hvl : 0 < vs.length := List.length_pos_iff.2 hv0
  obtain ⟨bu, ou, rfl, hbu, _⟩ := gu.rd.at (i := 0) (by omega)
  obtain ⟨q, hq⟩ : ∃ q, q + vs.length = us.length + 1 := ⟨us.length + 1 - vs.length, by omega⟩
  obtain ⟨i0, hi, hz0, hzz1, hzz2⟩ := info_parts info_u64
  have hcu := gu.full
  subst hcu
  replace hlx := Lib.hid hlx
  replace hq := Lib.hid hq
  replace hv0 := Lib.hid hv0
  go_wp2_with (at_builtin; refine wpList_append_grows _ rfl _ _ 33 rfl 22 i0 (.int .u64 0) 1 8 under_nat hi hz0 hzz1 hzz2 rfl (by decide) (some ⟨bu, ou, none⟩) us.length us.length (lU us) rfl (fun h => by cases h) (by rw [lU_len, Nat.mul_one]) ?hold ⟨w3.heap.size, 0, none⟩ 1 1 [.int .u64 0] rfl rfl ?c2 ?c3 ?c4 ?c5 ?c6 ?_)
  case hold => intro b e j u hj; injection e with e; subst e; exact rd_cells gu.rd (Nat.le_refl _) _ j u hj
  case c2 =>
    intro j u hj
    rcases j with _ | j
    · simp at hj
      subst hj
      simp [Addr.add_lit]
    · simp at hj
  case c3 => intro u hu; simp at hu; subst hu; rfl
  case c4 => omega
  case c5 => unfold maxLen; omega
  case c6 => omega
  intro v' w5 hown hgr
  have hb5 : Below w3.heap.size w3 w5 := ((Below.refl _ _).alloc (Nat.le_refl _) _).grown hgr (by simp) (fun j hj => by cases hj)
  have el : lU us ++ [.int .u64 0] = lU (us ++ [0]) := by simp [lU]
  have el2 : us.length + 1 = (us ++ [0]).length := by simp
  rw [el, el2] at hown
  obtain ⟨g, cu, rfl, hBu, hgu, hcu⟩ := blkU_of_own hown (by simp)
  rw [← el2]
  rw [← el2] at hcu
  clear hown el el2 hi hz0 hzz1 hzz2 hgr
  have hz5 := hb5.size
  have rv5 := gv'.rd.below hb5
  have gub : g < w5.heap.size := hBu.lt
  have hqi : (us.length : Int) + 1 - (vs.length : Int) = (q : Int) := by have := hq.out; omega
  have hmk := run_makeU (P := Tryz.prog) 33 22 under_nat info_u64 q (by have := hq.out; omega)
  clear gv gv' r1 r1' r2 hb hbu
  go_wp2
  clear hmk
  go_loopw [13] (fun kv wr => ∃ (j : Nat) (L Q : List Nat), j ≤ q ∧ kv = .int .i64 ((j : Int) - 1) ∧ BlkU wr g 22 L ∧ BlkU wr w5.heap.size 22 Q ∧ RdU wr w3.heap.size A3 vs ∧ Below w3.heap.size w3 wr ∧ DivRel 18446744073709551616 vs us.length q (vl 18446744073709551616 us) L Q j) (fun kv _ => (intOf kv + 1).toNat)
  case atStart => exact ⟨q, _, _, Nat.le_refl _, rfl, hBu.alloc _, BlkU.made w5 22 q, rv5.alloc hz5 _, hb5.alloc hz5 _, .start (by omega) nu.dig nv.top hv0.out hq.out⟩
  case round =>
    obtain ⟨j, L, Q, hj, rfl, hBL, hBQ, rv, hbw, hR⟩ := hrel
    have hzw := hbw.size
    clear hBu rv5
    by_cases hj0 : j = 0
    · subst hj0
      obtain ⟨hd1, hd2⟩ := hR.done
      rw [nu.val, nv.val, v1.out, v2.out] at hd1 hd2
      rw [(shifted_div _ _ s).1] at hd1
      have hd3 := (shifted_div (vl 18446744073709551616 xs) (vl 18446744073709551616 ys) s).2
      rw [← hd2] at hd3
      replace hd1 := Lib.hid hd1
      replace hd2 := Lib.hid hd2
      replace hd3 := Lib.hid hd3
      have hql := hR.qlen
      have hll := hR.len
      have hrl := (hBL.rd 0 L.length (by omega)).more hBL.lt
      simp only [List.drop_zero, List.take_length] at hrl
      have hsh := shr_in cu s (by omega) wr hrl (by omega) hR.dig
      rw [hll] at hsh
      replace hll := Lib.hid hll
      replace hsh := Lib.hid hsh
      go_wp2_with fail
      refine (trim_kept (base := w.heap.size) q hBQ (by omega) hql (Nat.le_refl _) (by have := hq.out; omega) hR.qdig hd1.out).mono ?_
      rintro e w7 ⟨⟨A, c, zs, rfl, gz, nz⟩, rfl⟩
      go_wp2_with fail
      refine hsh.out.mono ?_
      rintro e w8 ⟨A', c', rs, rfl, gr, nr, hb8⟩
      rw [hd3.out] at nr
      go_wp2
      go_ret3
      exact .some hY ((gotU_toW gz).below hb8) nz (gotW_base (gotU_toW gr) (by omega)) nr (chain (chain (chain (chain hb1 hb2) hb3) hbw) hb8)
    · obtain ⟨j, rfl⟩ : ∃ k, j = k + 1 := ⟨j - 1, by omega⟩
      have hqn := hq.out
      have hll := hR.len
      have hql := hR.qlen
      have hj1 : j + vs.length + 1 ≤ us.length + 1 := by omega
      obtain ⟨_, _, hX⟩ := hR.win nv.dig hj1
      have hdg := fun c2 => digit_any (g := g) (k := j) (c := cu - j) (c2 := c2) (n := vs.length) wr hBL (by omega) rv (by omega) rfl hvl (by omega) hR.dig nv.dig hX
      rw [show ((j + 1 : Nat) : Int) - 1 = (j : Int) by omega]
      have h3 : (j : Int) + (vs.length : Int) + 1 ≤ (cu : Int) := by omega
      have h4 : (j : Int) ≤ (j : Int) + (vs.length : Int) + 1 := by omega
      have h5 : (j : Int) < (q : Int) := by omega
      replace hdg := Lib.hid hdg
      replace hll := Lib.hid hll
      replace hql := Lib.hid hql
      clear hqn hX
      have hQlt := hBQ.lt
      go_wp2_with fail
      rw [show j + vs.length + 1 - j = vs.length + 1 by omega]
      refine (hdg.out _).mono ?_
      rintro e w6 ⟨L', rfl, hBL', hW, dL', hss, hg⟩
      have hst := hR.step nv.dig hj1 (by omega) (by have := vl_pos (b := 18446744073709551616) nv.top hv0.out; have := Nat.pow_pos (n := vs.length - 1) (show 0 < 18446744073709551616 by omega); omega) hW dL' hss
      obtain ⟨d, hd⟩ : ∃ d, vl 18446744073709551616 ((L.drop j).take (vs.length + 1)) / vl 18446744073709551616 vs = d := ⟨_, rfl⟩
      rw [hd] at hst ⊢
      have hBQ' := hBQ.same (hg.block w5.heap.size hQlt (fun e => by injection e with e; omega))
      have rv' := rv.only hg (by omega) hzw
      have hb' := hbw.grown hg hzw (fun j hj => by injection hj with hj; omega)
      have hcell := hBQ'.cell j (by have := hql.out; omega)
      have hfr := hBQ'.frozen j
      have hfar : g ≠ w5.heap.size := by omega
      clear hss hd hR hdg hBQ rv hbw hBL hW hg
      replace hst := Lib.hid hst
      replace hfar := Lib.hid hfar
      go_wp2
      exact ⟨⟨j, L', Q.set j d, by omega, by go_num, hBL'.far hfar.out _, hBQ'.set j d, rv'.below ((Below.refl _ _).setCell (by omega) _), hb'.setCell (by omega) _, hst.out⟩, by simp [intOf]⟩
end Go.Proofs.YtncfbleeidjflaaGreatDoor
namespace Go.Proofs.YtncfbleeidjflaaGreatDoor
open Go.RowKit Go.Cal
/-- How many bits. -/
def blen (N : Nat) : Nat := if N = 0 then 0 else Nat.log2 N + 1
theorem blen_zero : blen 0 = 0 := rfl
theorem blen_of {N k : Nat} (h1 : 2 ^ k ≤ N) (h2 : N < 2 ^ (k + 1)) : blen N = k + 1 := by
  have hp := Nat.two_pow_pos k
  have h0 : N ≠ 0 := by omega
  unfold blen
  rw [if_neg h0]
  have h3 := (Nat.le_log2 h0).2 h1
  have h4 := (Nat.log2_lt h0).2 h2
  omega
theorem blen_lt (N : Nat) : N < 2 ^ blen N := by
  unfold blen
  split
  · next h => subst h; decide
  · exact Nat.lt_log2_self
theorem blen_le {N k : Nat} (h : N < 2 ^ k) : blen N ≤ k := by
  unfold blen
  split
  · omega
  · next h0 => have := (Nat.log2_lt h0).2 h; omega
theorem vl_at {b : Nat} (hb : 0 < b) : ∀ {xs : List Nat}, Dig b xs → ∀ i, vl b xs / b ^ i % b = xs.getD i 0
  | [], _, i => by simp [vl]
  | x :: xs, h, 0 => by
    have hx : x < b := h x (by simp)
    simp [vl, Nat.add_mul_mod_self_left, Nat.mod_eq_of_lt hx]
  | x :: xs, h, i + 1 => by
    have hx : x < b := h x (by simp)
    have ih := vl_at hb (xs := xs) (fun y hy => h y (by simp [hy])) i
    rw [Nat.pow_succ, Nat.mul_comm (b ^ i) b, ← Nat.div_div_eq_div_mul]
    simp only [vl]
    rw [Nat.add_mul_div_left _ _ hb, Nat.div_eq_of_lt hx, Nat.zero_add, ih]
    simp
theorem vl_bit {xs : List Nat} (d : Dig 18446744073709551616 xs) (i : Nat) : (xs.getD (i / 64) 0).testBit (i % 64) = (vl 18446744073709551616 xs).testBit i := by
  rw [← vl_at (by omega) d, show 18446744073709551616 = 2 ^ 64 from rfl, ← Nat.pow_mul, Nat.testBit_mod_two_pow]
  rw [decide_eq_true (Nat.mod_lt i (by omega)), Bool.true_and, ← Nat.shiftRight_eq_div_pow, Nat.testBit_shiftRight]
  congr 1
  omega
theorem vl_blen {xs : List Nat} (d : Dig 18446744073709551616 xs) (t : Top xs) (h : 0 < xs.length) :
    blen (vl 18446744073709551616 xs) = 64 * (xs.length - 1) + Lib.bitLen (xs.getD (xs.length - 1) 0) := by
  obtain ⟨m, hm⟩ : ∃ m, xs.length = m + 1 := ⟨xs.length - 1, by omega⟩
  have h0 : xs.getD m 0 ≠ 0 := by
    have h1 := t (by intro e; subst e; simp at hm)
    rw [List.getLast_eq_getElem] at h1
    rw [List.getD_eq_getElem?_getD, List.getElem?_eq_getElem (by omega)]
    simpa [hm] using h1
  have hb := dig_getD (b := 18446744073709551616) (by omega) d m
  rw [hm, Nat.add_sub_cancel]
  generalize hx : xs.getD m 0 = x at h0 hb ⊢
  obtain ⟨s1, s2⟩ := bitLen_spec x x (Nat.le_refl _) hb
  obtain ⟨s2, s3⟩ := s2 h0
  obtain ⟨l, hl⟩ : ∃ l, Lib.bitLen x = l + 1 := ⟨Lib.bitLen x - 1, by omega⟩
  rw [hl] at s1 s2 ⊢
  have hv : vl 18446744073709551616 xs = vl 18446744073709551616 (xs.take m) + 18446744073709551616 ^ m * x := by
    rw [← hx, ← vl_getD, vl_take_all _ _ (by omega)]
  have hlo := vl_lt (dig_take d m)
  rw [List.length_take, Nat.min_eq_left (by omega)] at hlo
  have hp : 18446744073709551616 ^ m = 2 ^ (64 * m) := by rw [show 18446744073709551616 = 2 ^ 64 from rfl, ← Nat.pow_mul]
  rw [hp] at hv hlo
  refine blen_of (k := 64 * m + l) ?_ ?_
  · rw [Nat.pow_add, hv]
    have := Nat.mul_le_mul_left (2 ^ (64 * m)) s2
    rw [Nat.add_sub_cancel] at this
    omega
  · rw [Nat.add_assoc, Nat.pow_add, hv]
    have := Nat.mul_le_mul_left (2 ^ (64 * m)) (show x + 1 ≤ 2 ^ (l + 1) from s1)
    rw [Nat.mul_add] at this
    omega
set_option maxHeartbeats 1000000 in
theorem bits_any {B : Nat} {A : Option Addr} {xs : List Nat} (c : Nat) (w : World) (h : RdU w B A xs) (hc : xs.length ≤ c) (hn : xs.length ≤ 68719476736) (d : Dig 18446744073709551616 xs) :
    Calls Tryz.prog 45 #[.slice A xs.length c] w fun e w' => e = .returned (.int .i64 (blen (vl 18446744073709551616 xs) : Nat)) ∧ w = w' := by
  go_enter Tryz.func45, Tryz.ntmps45
  go_wp2_with fail
  refine (trim_nat _ _ h hc (by omega) d).mono ?_
  rintro e w1 ⟨⟨zs1, rfl, r1, t1, e1, v1, l1⟩, rfl⟩
  by_cases h0 : zs1.length = 0
  · obtain rfl := List.eq_nil_of_length_eq_zero h0
    have hY := Lib.hid (show blen (vl 18446744073709551616 xs) = 0 by rw [← v1]; rfl)
    clear v1 r1 h d
    go_wp2
    go_ret
    exact ⟨by rw [hY.out]; rfl, rfl⟩
  · have h0' : ((zs1.length : Int) == 0) = false := by simpa using h0
    have hb := vl_blen e1 t1 (Nat.pos_of_ne_zero h0)
    obtain ⟨m, hm⟩ : ∃ m, zs1.length = m + 1 := ⟨zs1.length - 1, by omega⟩
    rw [show zs1.length - 1 = m by omega, v1] at hb
    have hx := dig_getD (b := 18446744073709551616) (by omega) e1 m
    obtain ⟨b, off, rfl, hbb, hcy⟩ := r1.at (i := m) (by omega)
    have hc0 := hcy m (by omega)
    clear hcy
    generalize zs1.getD m 0 = x at *
    have hbl := bitLen_le x hx
    have hml : (m : Int) < (zs1.length : Int) := by omega
    have hmi : (zs1.length : Int) - 1 = (m : Int) := by omega
    replace hm := Lib.hid hm
    replace hb := Lib.hid hb
    replace v1 := Lib.hid v1
    go_wp2_with fail
    refine (Tryz.bits_Len64 x w (by omega) (by omega)).mono ?_
    rintro e w' ⟨rfl, rfl⟩
    simp only [Int.toNat_natCast]
    generalize Lib.bitLen x = l at *
    go_wp2
    go_ret
    exact ⟨by rw [hb.out]; exact ret_int (by push_cast; rfl), rfl⟩
theorem bit_val (x r : Nat) (hx : x < 18446744073709551616) : ((bits .and .u64 ((x : Int) / 2 ^ r) 1 == 1) : Bool) = x.testBit r := by
  have e1 : (x : Int) / 2 ^ r = ((x / 2 ^ r : Nat) : Int) := by push_cast; rfl
  have hlt : x / 2 ^ r < 18446744073709551616 := Nat.lt_of_le_of_lt (Nat.div_le_self _ _) hx
  have hm := Nat.mod_lt (x / 2 ^ r) (show 0 < 2 by omega)
  rw [e1, show (1 : Int) = ((1 : Nat) : Int) from rfl, u64_and_nat _ _ hlt (by omega), Nat.and_one_is_mod, Nat.testBit_eq_decide_div_mod_eq, Bool.eq_iff_iff]
  simp
  omega
set_option maxRecDepth 100000 in
set_option maxHeartbeats 1000000 in
theorem bit_any {B : Nat} {A : Option Addr} {xs : List Nat} (c i : Nat) (hi : i ≤ 9223372036854775807) (w : World) (h : RdU w B A xs) (d : Dig 18446744073709551616 xs) :
    Calls Tryz.prog 183 #[.slice A xs.length c, .int .i64 i] w fun e w' => e = .returned (.bool ((vl 18446744073709551616 xs).testBit i)) ∧ w = w' := by
  obtain ⟨q, hq⟩ : ∃ q, i / 64 = q := ⟨_, rfl⟩
  obtain ⟨r, hr⟩ : ∃ r, i % 64 = r := ⟨_, rfl⟩
  have hq' : (i : Int) / 64 = (q : Int) := by omega
  have hr' : (i : Int) % 64 = (r : Int) := by omega
  have hr64 : r < 64 := by omega
  have hqb : q ≤ 9223372036854775807 := by omega
  have hb := vl_bit d i
  rw [hq, hr] at hb
  have hx := dig_getD (b := 18446744073709551616) (by omega) d q
  have hat := at_any c q w h
  generalize xs.getD q 0 = x at *
  have hv := bit_val x r hx
  rw [hb] at hv
  generalize (vl 18446744073709551616 xs).testBit i = bb at *
  replace hq := Lib.hid hq
  replace hr := Lib.hid hr
  replace hat := Lib.hid hat
  replace hb := Lib.hid hb
  clear hx d h
  go_enter Tryz.func183, Tryz.ntmps183
  go_wp2_with fail
  refine hat.out.mono ?_
  rintro e w' ⟨rfl, rfl⟩
  go_wp2
  go_ret
  exact ⟨rfl, rfl⟩
set_option maxHeartbeats 1000000 in
theorem even_any {B : Nat} {A : Option Addr} {xs : List Nat} (c : Nat) (w : World) (h : RdU w B A xs) (d : Dig 18446744073709551616 xs) :
    Calls Tryz.prog 153 #[.slice A xs.length c] w fun e w' => e = .returned (.bool (!(vl 18446744073709551616 xs).testBit 0)) ∧ w = w' := by
  have hbt := bit_any c 0 (by omega) w h d
  generalize (vl 18446744073709551616 xs).testBit 0 = bb at *
  replace hbt := Lib.hid hbt
  go_enter Tryz.func153, Tryz.ntmps153
  go_wp2_with fail
  refine hbt.out.mono ?_
  rintro e w' ⟨rfl, rfl⟩
  go_wp2
  go_ret
  exact ⟨rfl, rfl⟩
end Go.Proofs.YtncfbleeidjflaaGreatDoor
namespace Go.Proofs.YtncfbleeidjflaaGreatDoor
open Go.RowKit Go.Cal
/-- At the head of a round. -/
def PowRel (w wr : World) (base n0 : Nat) (nv ov sv : Value) : Prop :=
  ∃ (n q p : Nat) (A1 : Option Addr) (c1 : Nat) (z1 : List Nat) (A2 : Option Addr) (c2 : Nat) (z2 : List Nat), nv = .int .i64 n ∧ ov = .slice A1 z1.length c1 ∧ sv = .slice A2 z2.length c2 ∧
    GotW wr w.heap.size A1 c1 z1 ∧ Nrm z1 (base ^ q) ∧ GotW wr w.heap.size A2 c2 z2 ∧ Nrm z2 (base ^ p) ∧ Below w.heap.size w wr ∧ q + p * n = n0 ∧ p ≤ n0 + 1 ∧ 1 ≤ p
theorem pow_len' {z : List Nat} {base p k : Nat} (hb : base < 18446744073709551616) (hp : p ≤ k) (h : Nrm z (base ^ p)) : z.length ≤ k + 1 := by
  refine h.length_le ?_
  have h1 : base ^ p ≤ 18446744073709551616 ^ p := Nat.pow_le_pow_left (by omega) p
  have h2 : 18446744073709551616 ^ p ≤ 18446744073709551616 ^ k := Nat.pow_le_pow_right (by omega) hp
  have h3 : 18446744073709551616 ^ k < 18446744073709551616 ^ (k + 1) := Nat.pow_lt_pow_right (by omega) (by omega)
  exact Nat.lt_of_le_of_lt (Nat.le_trans h1 h2) h3
theorem pow_len {z : List Nat} {base p : Nat} (hb : base < 18446744073709551616) (hp : p ≤ 10001) (h : Nrm z (base ^ p)) : z.length ≤ 10002 := pow_len' hb hp h
set_option maxRecDepth 100000 in
set_option maxHeartbeats 2000000 in
theorem pow_min (base : Nat) (hb : base < 18446744073709551616) (n : Int) (n0 : Nat) (hmin : min (max n 0) 10000 = (n0 : Int)) (w : World) :
    Calls Tryz.prog 48 #[.int .u64 base, .int .i64 n] w (RetW w (base ^ n0)) := by
  have hn0 : n0 ≤ 10000 := by omega
  go_enter Tryz.func48, Tryz.ntmps48
  go_wp2_with fail
  refine (of_any 1 (by omega) w).mono ?_
  rintro e w1 ⟨A1, c1, z1, rfl, g1, n1, hb1⟩
  have hz1 := hb1.size
  go_wp2_with fail
  refine (of_any base hb w1).mono ?_
  rintro e w2 ⟨A2, c2, z2, rfl, g2, n2, hb2⟩
  have hz2 := hb2.size
  have g1' := g1.below hb2
  have g2' := gotW_base g2 hz1
  have hb12 := chain hb1 hb2
  clear g1 g2 hb1 hb2
  go_wp2
  clear hmin
  go_loopw [1, 5, 6] (fun nv ov sv wr => PowRel w wr base n0 nv ov sv) (fun nv _ _ _ => (intOf nv).toNat)
  case atStart => exact ⟨n0, 0, 1, A1, c1, z1, A2, c2, z2, rfl, rfl, rfl, g1', by rw [Nat.pow_zero]; exact n1, g2', by rw [Nat.pow_one]; exact n2, hb12, by omega, by omega, by omega⟩
  case round =>
    clear g1' g2' hb12 n1 n2 hz1 hz2
    obtain ⟨n, q, p, A1, c1, z1, A2, c2, z2, rfl, rfl, rfl, g1, n1, g2, n2, hbw, hq, hp, hp1⟩ := hrel
    have hzw := hbw.size
    by_cases h0 : n = 0
    · subst h0
      rw [Nat.mul_zero, Nat.add_zero] at hq
      subst hq
      go_wp2
      go_ret
      exact ⟨A1, c1, z1, rfl, g1, n1, hbw⟩
    · have hpn : n ≤ p * n := Nat.le_mul_of_pos_left n hp1
      have hn : n ≤ 10000 := by omega
      have hl1 := pow_len hb (by omega) n1
      have hl2 := pow_len hb (by omega) n2
      obtain ⟨m, hm⟩ : ∃ m, n / 2 = m := ⟨_, rfl⟩
      have hm' : (n : Int) / 2 = (m : Int) := by omega
      have hn0' : (0 : Int) < (n : Int) := by omega
      have r1 := (g1.rd)
      have r2 := (g2.rd)
      by_cases hodd : n % 2 = 1
      · have ho : ((n : Int) % 2 == 1) = true := by simp; omega
        have hnm : n = 2 * m + 1 := by omega
        have hq2 : q + p + (p + p) * m = n0 := by rw [← hq, hnm, Nat.mul_add, ← Nat.mul_assoc, Nat.mul_one, Nat.mul_two]; omega
        replace hm := Lib.hid hm
        replace hq := Lib.hid hq
        replace hq2 := Lib.hid hq2
        replace hnm := Lib.hid hnm
        replace hodd := Lib.hid hodd
        go_wp2_with fail
        refine (mul_any c1 c2 wr r1 r2 (by omega) (by omega) n1.dig n2.dig).mono ?_
        rintro e w3 ⟨A3, c3, z3, rfl, g3, n3, hb3⟩
        have hz3 := hb3.size
        rw [n1.val, n2.val, ← Nat.pow_add] at n3
        have g2' := g2.below hb3
        have g3' := gotW_base (gotU_toW g3) hzw
        have hbw' := chain hbw hb3
        by_cases hgt : 1 < n
        · have hgt' : (1 : Int) < (n : Int) := by omega
          go_wp2_with fail
          refine (mul_any c2 c2 w3 g2'.rd g2'.rd (by omega) (by omega) n2.dig n2.dig).mono ?_
          rintro e w4 ⟨A4, c4, z4, rfl, g4, n4, hb4⟩
          rw [n2.val, ← Nat.pow_add] at n4
          have hz4 := hb4.size
          have hle : p + p ≤ n0 + 1 := by
            have h1 := hq.out
            have h2 : p * 2 ≤ p * n := Nat.mul_le_mul_left p hgt
            omega
          go_wp2
          exact ⟨⟨m, q + p, p + p, A3, c3, z3, A4, c4, z4, rfl, rfl, rfl, g3'.below hb4, n3, gotW_base (gotU_toW g4) (by omega), n4, chain hbw' hb4, hq2.out, hle, by omega⟩, by simp [intOf]; have := hm.out; omega⟩
        · have hgt' : ¬ (1 : Int) < (n : Int) := by omega
          have hm0 : m = 0 := by have := hnm.out; omega
          have hend : q + p + p * m = n0 := by have := hq2.out; rw [hm0] at this ⊢; simpa using this
          replace hm0 := Lib.hid hm0
          replace hend := Lib.hid hend
          go_wp2
          exact ⟨⟨m, q + p, p, A3, c3, z3, A2, c2, z2, rfl, rfl, rfl, g3', n3, g2', n2, hbw', hend.out, hp, hp1⟩, by simp [intOf]; have := hm.out; omega⟩
      · have ho : ((n : Int) % 2 == 1) = false := by simp; omega
        have hnm : n = 2 * m := by omega
        have hq2 : q + (p + p) * m = n0 := by rw [← hq, hnm, ← Nat.mul_assoc, Nat.mul_two]
        have hgt' : (1 : Int) < (n : Int) := by omega
        have hgt : 1 < n := by omega
        have hle : p + p ≤ n0 + 1 := by
          have h2 : p * 2 ≤ p * n := Nat.mul_le_mul_left p hgt
          omega
        replace hm := Lib.hid hm
        replace hq := Lib.hid hq
        replace hq2 := Lib.hid hq2
        replace hnm := Lib.hid hnm
        replace hodd := Lib.hid hodd
        go_wp2_with fail
        refine (mul_any c2 c2 wr r2 r2 (by omega) (by omega) n2.dig n2.dig).mono ?_
        rintro e w4 ⟨A4, c4, z4, rfl, g4, n4, hb4⟩
        rw [n2.val, ← Nat.pow_add] at n4
        go_wp2
        exact ⟨⟨m, q, p + p, A1, c1, z1, A4, c4, z4, rfl, rfl, rfl, g1.below hb4, n1, gotW_base (gotU_toW g4) hzw, n4, chain hbw hb4, hq2.out, hle, by omega⟩, by simp [intOf]; have := hm.out; omega⟩
theorem pow_any (base : Nat) (hb : base < 18446744073709551616) (n : Int) (w : World) :
    Calls Tryz.prog 48 #[.int .u64 base, .int .i64 n] w (RetW w (base ^ (min (max n 0) 10000).toNat)) :=
  pow_min base hb n _ (by omega) w
end Go.Proofs.YtncfbleeidjflaaGreatDoor
namespace Go.Proofs.YtncfbleeidjflaaGreatDoor
open Go.RowKit Go.Cal Go.Sort
/-- The table of powers. -/
def Tab10 (w : World) : Prop := Lib.TabIs Tryz.prog w "internal/strconv.uint64pow10" .u64 Lib.pow10Tab
theorem var_keep {P : Program} {w w' : World} {name : String} {cs : Array Value} (h : w.var? P name = some cs) (hb : Below w.heap.size w w') : w'.var? P name = some cs := by
  unfold World.var? at *
  cases hg : P.globalNamed name with
  | none => simp [hg] at h
  | some g =>
    simp only [hg, Option.bind_some] at h ⊢
    have hlt : g < w.heap.size := by
      rcases Nat.lt_or_ge g w.heap.size with h' | h'
      · exact h'
      · rw [Array.getElem?_eq_none h'] at h; simp at h
    rw [hb.block g hlt]
    exact h
theorem Tab10.below {w w' : World} (h : Tab10 w) (hb : Below w.heap.size w w') : Tab10 w' := var_keep h hb
theorem Tab10.chain {w wa w' : World} (h : Tab10 wa) (hb : Below w.heap.size w w') (ha : w.heap.size = wa.heap.size) (he : ∀ g, g < w.heap.size → wa.heap[g]? = w.heap[g]?) : Tab10 w' := by
  unfold Tab10 Lib.TabIs World.var? at *
  cases hg : Tryz.prog.globalNamed "internal/strconv.uint64pow10" with
  | none => simp [hg] at h
  | some g =>
    simp only [hg, Option.bind_some] at h ⊢
    have hlt : g < w.heap.size := by
      rcases Nat.lt_or_ge g w.heap.size with h' | h'
      · exact h'
      · rw [Array.getElem?_eq_none (by omega)] at h; simp at h
    rw [hb.block g hlt, ← he g hlt]
    exact h
theorem grow_below {w : World} {k : Nat} {os : Array Obj} (B : Nat) (hB : B ≤ w.heap.size) : Below B w (grow (w.drewN k) os) := by
  refine ⟨rfl, rfl, rfl, by simp [grow], fun j hj => ?_⟩
  simp [grow, Array.getElem?_append, show j < w.heap.size by omega]
theorem fin_zero (w : World) (o : Obj) (dk : Array UInt8) (k : Nat) : ∃ os, (putRow (fun (b : UInt8) => Value.int .u8 (b.toNat : Int)) (w.alloc o) w.heap.size 0 dk).drewN k = grow (w.drewN k) os := by
  rw [alloc_eq_grow]
  obtain ⟨os', _, e⟩ := putRow_grow_new (fun (b : UInt8) => Value.int .u8 (b.toNat : Int)) w #[o] w.heap.size 0 dk (Nat.le_refl _)
  exact ⟨os', by rw [e]; rfl⟩
set_option maxHeartbeats 6400000 in
set_option maxRecDepth 100000 in
theorem ifu_any (u : Nat) (hu64 : u < 18446744073709551616) (w : World) (hT : Tab10 w) :
    Calls Tryz.prog 171 #[.int .u64 u, .int .i64 10] w fun e w' => e = .returned (.string ⟨(Lib.decDigits u).toArray⟩) ∧ Below w.heap.size w w' := by
  by_cases hs : u < 100
  · have hs' : (u : Int) < 100 := by omega
    go_enter Tryz.func171, Tryz.ntmps171
    go_wp2_with fail
    refine (Tryz.internal_strconv_small u hs w).mono ?_
    rintro e w' ⟨rfl, rfl⟩
    go_wp2
    go_ret
    exact ⟨rfl, .refl _ _⟩
  · have hs' : ¬ (u : Int) < 100 := by omega
    have hu1 : 1 ≤ u := by omega
    have hnd20 : Lib.nDigits u ≤ 20 := by have := Lib.numDigits_eq u hu1 hu64; split at this <;> omega
    have hal : Tryz.prog.arrayLen 234 = 24 := by kernel_rfl
    have hH0 := Lib.holds_zero0 w 234 (Lib.nDigits u) (by omega)
    have hfmt := Tryz.internal_strconv_formatBase10 w.heap.size 0 24 u (Array.replicate (Lib.nDigits u) 0) (w.alloc (.cells Lib.zeros24 234)) hH0 (by rw [Array.size_replicate]; exact Lib.lt_pow_nDigits u) hu64 (by rw [Array.size_replicate]; omega)
    rw [Array.size_replicate] at hfmt
    have HH0 := Lib.hid hH0
    have hT' : Tab10 (w.alloc (.cells Lib.zeros24 234)) := hT.below ((Below.refl _ _).alloc (Nat.le_refl _) _)
    have hnd := Tryz.internal_strconv_numDigits u hu1 hu64 _ hT'
    have hsl : ∀ W, (Instr.sliceAt 234 (.pointer (some ⟨w.heap.size, 0, none⟩)) none (some (.int .i64 (Lib.nDigits u : Int))) none).run Tryz.prog W = .ok (.slice (some ⟨w.heap.size, 0, none⟩) (Lib.nDigits u) 24) W := fun W => by
      rw [run_sliceAt_array_h W 234 ⟨w.heap.size, 0, none⟩ (by kernel_rfl) .i64 (Lib.nDigits u : Int) (by omega) (by rw [hal]; omega)]
      go_simp
    replace hfmt := Lib.hid hfmt
    clear hal
    replace hnd := Lib.hid hnd
    clear hH0
    go_enter Tryz.func171, Tryz.ntmps171
    go_wp2_with fail
    refine hnd.out.mono ?_
    rintro e w' ⟨rfl, rfl⟩
    go_wp2_with fail
    refine hfmt.out.mono ?_
    rintro e w' ⟨rfl, k, v', dk, rfl, hF⟩
    have hcv : (convert 66 9 (.slice (some ⟨w.heap.size, 0, none⟩) (Lib.nDigits u) 24)).run Tryz.prog ((putRow (fun (b : UInt8) => Value.int .u8 (b.toNat : Int)) (w.alloc (.cells Lib.zeros24 234)) w.heap.size 0 dk).drewN k) = .ok (.string ⟨(Lib.decDigits u).toArray⟩) ((putRow (fun (b : UInt8) => Value.int .u8 (b.toNat : Int)) (w.alloc (.cells Lib.zeros24 234)) w.heap.size 0 dk).drewN k) := by
      have h := run_convert_bytes_back (P := Tryz.prog) ((putRow (fun (b : UInt8) => Value.int .u8 (b.toNat : Int)) (w.alloc (.cells Lib.zeros24 234)) w.heap.size 0 dk).drewN k) 66 9 5 ⟨w.heap.size, 0, none⟩ 24 (Lib.decDigits u) (by kernel_rfl) (by kernel_rfl) (by kernel_rfl) (fun j hj => by
        rw [Lib.row_is_numeral hF j hj, Lib.add_plain, World.cell?_drewN]
        exact cell?_putRow (fun (b : UInt8) => Value.int .u8 (b.toNat : Int)) _ w.heap.size 0 _ dk HH0.out (by rw [hF.size, Array.size_replicate]) j (by rw [hF.size]; rw [Lib.decDigits_length] at hj; exact hj))
      rw [Lib.decDigits_length] at h
      exact h
    obtain ⟨os, eo⟩ := fin_zero w (.cells Lib.zeros24 234) dk k
    rw [eo] at hcv
    have eo' := Lib.hid eo
    clear eo
    rw [eo'.out]
    go_wp2
    go_ret
    exact ⟨rfl, grow_below _ (Nat.le_refl _)⟩
set_option maxHeartbeats 1000000 in
theorem formatUint_any (u : Nat) (hu64 : u < 18446744073709551616) (w : World) (hT : Tab10 w) :
    Calls Tryz.prog 108 #[.int .u64 u, .int .i64 10] w fun e w' => e = .returned (.string ⟨(Lib.decDigits u).toArray⟩) ∧ Below w.heap.size w w' := by
  go_enter Tryz.func108, Tryz.ntmps108
  go_wp2_with fail
  refine (ifu_any u hu64 w hT).mono ?_
  rintro e w' ⟨rfl, hb⟩
  go_wp2
  go_ret
  exact ⟨rfl, hb⟩
end Go.Proofs.YtncfbleeidjflaaGreatDoor
