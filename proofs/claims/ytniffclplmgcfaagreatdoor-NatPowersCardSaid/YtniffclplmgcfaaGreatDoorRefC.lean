/- The document's half words, third part: sums, differences, order. Conditions: a number's half words are counted. -/
import Derived.Test.YtniffclplmgcfaaGreatDoorRefB
namespace Go.Proofs.YtniffclplmgcfaaGreatDoor
open Go.RowKit Go.Cal
set_option maxRecDepth 100000 in
set_option maxHeartbeats 2000000 in
theorem plus_any {v1 v2 : Value} {k1 k2 X Y : Nat} (k' : Nat) (w : World) (h1 : IsH w v1 k1 X) (h2 : IsH w v2 k2 Y) (b1 : k1 ≤ 1048576) (b2 : k2 ≤ 1048576) (hk : X + Y < 4294967296 ^ k') : Calls Tryz.prog 14 #[v1, v2] w (TellsH w k' (X + Y)) := by
  obtain ⟨A1, c1, xs, rfl, r1, hc1, hm1, hl1, hx⟩ := h1
  obtain ⟨A2, c2, ys, rfl, r2, hc2, hm2, hl2, hy⟩ := h2
  obtain ⟨i0, hi, hi0, hi1, hi2⟩ := info_parts info_u64
  replace hk := Lib.hid hk
  go_enter Tryz.func14, Tryz.ntmps14
  go_wp2
  obtain ⟨M, hMx, hMy, hMb⟩ : ∃ M, xs.length ≤ M ∧ ys.length ≤ M ∧ M ≤ 1048576 := ⟨max xs.length ys.length, by omega, by omega, by omega⟩
  go_loopg [5, 6, 7] (2 * (M + 1)) (fun k ov cv iv wr => ∃ (i c : Nat) (L : List Nat), iv = .int .i64 i ∧ cv = .int .u64 c ∧ i ≤ M + 1 ∧ (i = M + 1 → c = 0) ∧ k = 2 * (M + 1 - i) + c ∧ wr.ownsRow w.heap.size 39 1 ov i (lU L) ∧ Below w.heap.size w wr ∧ PlusRel 4294967296 xs ys L i c)
  case atStart => exact ⟨0, 0, [], rfl, rfl, by omega, by omega, by omega, World.ownsRow_lit w #[] 0 (Nat.le_refl _) (by unfold maxLen; omega) rfl, (Below.refl _ _).alloc (Nat.le_refl _) _, .start _ xs ys⟩
  case round =>
    obtain ⟨i, c, L, rfl, rfl, hib, hlast, hgk, hown, hbw, hR⟩ := hrel
    have hzw := hbw.size
    have hcar := hR.car
    have hg1 := get_any c1 i wr (r1.below hbw)
    have hg2 := get_any c2 i wr (r2.below hbw)
    obtain ⟨x, hxx⟩ : ∃ x, xs.getD i 0 = x := ⟨_, rfl⟩
    obtain ⟨y, hyy⟩ : ∃ x, ys.getD i 0 = x := ⟨_, rfl⟩
    have bx : x < 4294967296 := hxx ▸ dig_getD (by omega) hx.dig i
    have by' : y < 4294967296 := hyy ▸ dig_getD (by omega) hy.dig i
    rw [hxx] at hg1
    rw [hyy] at hg2
    by_cases hend : xs.length ≤ i ∧ ys.length ≤ i ∧ c = 0
    · obtain ⟨e1, e2, rfl⟩ := hend
      have hv : vl 4294967296 L = X + Y := by rw [hR.done e1 e2, hx.val, hy.val]
      have hLl := hR.len
      have ht := trim_own (k := k') hown hLl.symm hbw (by omega) hR.dig hv hk.out
      have n1 : ¬ (i : Int) < (xs.length : Int) := by omega
      have n2 : ¬ (i : Int) < (ys.length : Int) := by omega
      replace ht := Lib.hid ht
      clear hown hv hR hg1 hg2 hLl hxx hyy hgk hlast
      go_wp2_with fail
      refine ht.out.mono ?_
      rintro e w1 ⟨u, rfl, hu, hb⟩
      go_wp2
      go_ret
      exact ⟨u, rfl, hu, hb⟩
    · have hst := hR.step hxx hyy bx by'
      have hdis : i < xs.length ∨ (¬ i < xs.length ∧ i < ys.length) ∨ (¬ i < xs.length ∧ ¬ i < ys.length ∧ 0 < c) := by omega
      have hiM : i ≤ M := by
        rcases Nat.lt_or_ge i (M + 1) with h | h
        · omega
        · have := hlast (by omega)
          omega
      have hzero : i + 1 = M + 1 → x = 0 ∧ y = 0 := fun e => by
        rw [← hxx, ← hyy]
        simp [List.getD_eq_getElem?_getD, List.getElem?_eq_none (show xs.length ≤ i by omega), List.getElem?_eq_none (show ys.length ≤ i by omega)]
      obtain ⟨S, hS⟩ : ∃ S, x + y + c = S := ⟨_, rfl⟩
      have hSi : (x : Int) + (y : Int) + (c : Int) = (S : Int) := by omega
      have hSb : S < 8589934592 := by omega
      rw [hS] at hst
      obtain ⟨lo, hlo⟩ : ∃ l, S % 4294967296 = l := ⟨_, rfl⟩
      obtain ⟨c', hc'⟩ : ∃ l, S / 4294967296 = l := ⟨_, rfl⟩
      have hloi : (S : Int) % 4294967296 = (lo : Int) := by omega
      have hci : (S : Int) / 4294967296 = (c' : Int) := by omega
      rw [hlo, hc'] at hst
      have hlast' : i + 1 = M + 1 → c' = 0 := fun e => by have := hzero e; omega
      have hdec : 2 * (M + 1 - (i + 1)) + c' < gk := by have := hst.car; omega
      replace hS := Lib.hid hS
      replace hlo := Lib.hid hlo
      replace hc' := Lib.hid hc'
      replace hgk := Lib.hid hgk
      replace hdec := Lib.hid hdec
      replace hg1 := Lib.hid hg1
      replace hg2 := Lib.hid hg2
      replace hxx := Lib.hid hxx
      replace hyy := Lib.hid hyy
      replace hlast' := Lib.hid hlast'
      clear hlast hzero hend hR
      rcases hdis with d | ⟨d, d'⟩ | ⟨d, d', d''⟩
      all_goals
        go_wp2_with fail
        refine hg1.out.mono ?_
        rintro e w' ⟨rfl, rfl⟩
        go_wp2_with fail
        refine hg2.out.mono ?_
        rintro e w' ⟨rfl, rfl⟩
        go_wp2_with (at_builtin; refine wpList_append_own _ rfl _ _ 22 rfl w.heap.size 39 i0 (.int .u64 0) 1 8 under_u64s hi hi0 hi1 hi2 rfl (by decide) u5 i (lU L) rfl (hown.alloc _) ⟨wr.heap.size, 0, none⟩ 1 1 [.int .u64 lo] rfl rfl (one_cell wr 39 _) (fun u hu => by simp at hu; subst hu; rfl) (by unfold maxLen; omega) (by omega) (by simp; omega) ?_)
        intro v' w1 hown' hgr _
        rw [lU_snoc] at hown'
        have hb2 := (hbw.alloc hzw (.cells #[.int .u64 (lo : Int)] 39)).grown hgr (by simp; omega) (fun j hj => (hown.lt j hj).1)
        clear hown hgr
        go_wp2
        go_roundg (2 * (M + 1 - (i + 1)) + c')
        case measure => exact hdec.out
        case rel => exact ⟨i + 1, c', _, by go_num, rfl, by omega, hlast'.out, rfl, hown', hb2, hst⟩
set_option maxRecDepth 100000 in
set_option maxHeartbeats 2000000 in
theorem minus_any {v1 v2 : Value} {k1 k2 X Y : Nat} (w : World) (h1 : IsH w v1 k1 X) (h2 : IsH w v2 k2 Y) (b1 : k1 ≤ 1048576) (hle : Y ≤ X) : Calls Tryz.prog 18 #[v1, v2] w (TellsH w k1 (X - Y)) := by
  have hX := h1.lt
  obtain ⟨A1, c1, xs, rfl, r1, hc1, hm1, hl1, hx⟩ := h1
  obtain ⟨A2, c2, ys, rfl, r2, hc2, hm2, hl2, hy⟩ := h2
  obtain ⟨i0, hi, hi0, hi1, hi2⟩ := info_parts info_u64
  have hyx : ys.length ≤ xs.length := hy.length_le (Nat.lt_of_le_of_lt hle hx.lt)
  replace hX := Lib.hid hX
  go_enter Tryz.func18, Tryz.ntmps18
  go_wp2
  go_loopg [5, 6, 7] xs.length (fun k ov cv iv wr => ∃ (i c : Nat) (L : List Nat), iv = .int .i64 i ∧ cv = .int .u64 c ∧ i + k = xs.length ∧ wr.ownsRow w.heap.size 39 1 ov i (lU L) ∧ Below w.heap.size w wr ∧ MinusRel 4294967296 xs ys L i c)
  case atStart => exact ⟨0, 0, [], rfl, rfl, by omega, World.ownsRow_lit w #[] 0 (Nat.le_refl _) (by unfold maxLen; omega) rfl, (Below.refl _ _).alloc (Nat.le_refl _) _, .start _ xs ys⟩
  case round =>
    obtain ⟨i, c, L, rfl, rfl, hik, hown, hbw, hR⟩ := hrel
    have hzw := hbw.size
    have hcar := hR.car
    by_cases h0 : gk = 0
    · subst h0
      have hie : i = xs.length := by omega
      subst hie
      have hv : vl 4294967296 L = X - Y := by
        have := hR.done hyx (by rw [hx.val, hy.val]; exact hle)
        rw [this, hx.val, hy.val]
      have ht := trim_own (k := k1) hown hR.len.symm hbw (by rw [hR.len]; omega) hR.dig hv (by have := hX.out; omega)
      replace ht := Lib.hid ht
      clear hown hv hR hik
      go_wp2_with fail
      refine ht.out.mono ?_
      rintro e w1 ⟨u, rfl, hu, hb⟩
      go_wp2
      go_ret
      exact ⟨u, rfl, hu, hb⟩
    · have hii : (i : Int) < (xs.length : Int) := by omega
      have hg1 := get_any c1 i wr (r1.below hbw)
      have hg2 := get_any c2 i wr (r2.below hbw)
      obtain ⟨x, hxx⟩ : ∃ x, xs.getD i 0 = x := ⟨_, rfl⟩
      obtain ⟨y, hyy⟩ : ∃ x, ys.getD i 0 = x := ⟨_, rfl⟩
      have bx : x < 4294967296 := hxx ▸ dig_getD (by omega) hx.dig i
      have by' : y < 4294967296 := hyy ▸ dig_getD (by omega) hy.dig i
      rw [hxx] at hg1
      rw [hyy] at hg2
      have hst := hR.step hxx hyy bx by'
      obtain ⟨S, hS⟩ : ∃ S, x + 4294967296 - y - c = S := ⟨_, rfl⟩
      have hSi : (x : Int) + 4294967296 - (y : Int) - (c : Int) = (S : Int) := by omega
      have hSb : S < 8589934592 := by omega
      rw [hS] at hst
      obtain ⟨lo, hlo⟩ : ∃ l, S % 4294967296 = l := ⟨_, rfl⟩
      obtain ⟨q, hq⟩ : ∃ l, S / 4294967296 = l := ⟨_, rfl⟩
      obtain ⟨c', hc'⟩ : ∃ l, 1 - q = l := ⟨_, rfl⟩
      have hloi : (S : Int) % 4294967296 = (lo : Int) := by omega
      have hqi : (S : Int) / 4294967296 = (q : Int) := by omega
      have hci : 1 - (q : Int) = (c' : Int) := by omega
      have hq1 : q ≤ 1 := by omega
      rw [hlo, hq, hc'] at hst
      replace hS := Lib.hid hS
      replace hlo := Lib.hid hlo
      replace hq := Lib.hid hq
      replace hc' := Lib.hid hc'
      replace hg1 := Lib.hid hg1
      replace hg2 := Lib.hid hg2
      replace hxx := Lib.hid hxx
      replace hyy := Lib.hid hyy
      clear hR
      go_wp2_with fail
      refine hg1.out.mono ?_
      rintro e w' ⟨rfl, rfl⟩
      go_wp2_with fail
      refine hg2.out.mono ?_
      rintro e w' ⟨rfl, rfl⟩
      go_wp2_with (at_builtin; refine wpList_append_own _ rfl _ _ 22 rfl w.heap.size 39 i0 (.int .u64 0) 1 8 under_u64s hi hi0 hi1 hi2 rfl (by decide) u5 i (lU L) rfl (hown.alloc _) ⟨wr.heap.size, 0, none⟩ 1 1 [.int .u64 lo] rfl rfl (one_cell wr 39 _) (fun u hu => by simp at hu; subst hu; rfl) (by unfold maxLen; omega) (by omega) (by simp; omega) ?_)
      intro v' w1 hown' hgr _
      rw [lU_snoc] at hown'
      have hb2 := (hbw.alloc hzw (.cells #[.int .u64 (lo : Int)] 39)).grown hgr (by simp; omega) (fun j hj => (hown.lt j hj).1)
      clear hown hgr
      go_wp2
      go_roundg (gk - 1)
      case measure => omega
      case rel => exact ⟨i + 1, c', _, by go_num, rfl, by omega, hown', hb2, hst⟩
set_option maxRecDepth 100000 in
set_option maxHeartbeats 2000000 in
theorem rcmp_any {v1 v2 : Value} {k1 k2 X Y : Nat} (w : World) (h1 : IsH w v1 k1 X) (h2 : IsH w v2 k2 Y) (b1 : k1 ≤ 1048576) (b2 : k2 ≤ 1048576) :
    Calls Tryz.prog 10 #[v1, v2] w fun e w' => e = .returned (.int .i64 (cmpV (X : Int) (Y : Int))) ∧ w = w' := by
  obtain ⟨A1, c1, xs, rfl, r1, hc1, hm1, hl1, hx⟩ := h1
  obtain ⟨A2, c2, ys, rfl, r2, hc2, hm2, hl2, hy⟩ := h2
  obtain ⟨M, hMi, hMx, hMy, hMb⟩ : ∃ M : Nat, max (xs.length : Int) (ys.length : Int) = (M : Int) ∧ xs.length ≤ M ∧ ys.length ≤ M ∧ M ≤ 1048576 := ⟨max xs.length ys.length, by omega, by omega, by omega, by omega⟩
  go_enter Tryz.func10, Tryz.ntmps10
  go_wp2
  go_loopg [5] M (fun k iv wr => iv = .int .i64 k ∧ (∀ j, k ≤ j → xs.getD j 0 = ys.getD j 0) ∧ k ≤ M ∧ w = wr)
  case atStart => exact ⟨rfl, fun j hj => by simp [List.getD_eq_getElem?_getD, List.getElem?_eq_none (show xs.length ≤ j by omega), List.getElem?_eq_none (show ys.length ≤ j by omega)], Nat.le_refl _, rfl⟩
  case round =>
    obtain ⟨rfl, heq, hkM, rfl⟩ := hrel
    clear hMi
    by_cases h0 : gk = 0
    · subst h0
      have hv : cmpV (X : Int) (Y : Int) = 0 := cmpV_eq (by rw [← hx.val, ← hy.val, vl_ext (fun j => heq j (Nat.zero_le _))])
      replace hv := Lib.hid hv
      clear heq
      go_wp2
      go_ret
      exact ⟨by rw [hv.out]; rfl, rfl⟩
    · obtain ⟨m, rfl⟩ : ∃ m, gk = m + 1 := ⟨gk - 1, by omega⟩
      have hpos : (0 : Int) < ((m + 1 : Nat) : Int) := by omega
      have hg1 := get_any c1 m w r1
      have hg2 := get_any c2 m w r2
      obtain ⟨x, hxx⟩ : ∃ x, xs.getD m 0 = x := ⟨_, rfl⟩
      obtain ⟨y, hyy⟩ : ∃ x, ys.getD m 0 = x := ⟨_, rfl⟩
      rw [hxx] at hg1
      rw [hyy] at hg2
      replace hg1 := Lib.hid hg1
      replace hg2 := Lib.hid hg2
      rcases Nat.lt_trichotomy x y with h | h | h
      · have hv : cmpV (X : Int) (Y : Int) = -1 := cmpV_lt (by
          have := lex_lt (m := m) (by omega) hx.dig (fun j hj => heq j hj) (by rw [hxx, hyy]; exact h)
          rw [hx.val, hy.val] at this; omega)
        have hlt : (x : Int) < (y : Int) := by omega
        replace hv := Lib.hid hv
        replace heq := Lib.hid heq
        replace hxx := Lib.hid hxx
        replace hyy := Lib.hid hyy
        go_wp2_with fail
        refine hg1.out.mono ?_
        rintro e w' ⟨rfl, rfl⟩
        go_wp2_with fail
        refine hg2.out.mono ?_
        rintro e w' ⟨rfl, rfl⟩
        go_wp2
        go_ret
        exact ⟨by rw [hv.out]; rfl, rfl⟩
      · have heq' : ∀ j, m ≤ j → xs.getD j 0 = ys.getD j 0 := fun j hj => by
          rcases Nat.eq_or_lt_of_le hj with rfl | hj
          · rw [hxx, hyy, h]
          · exact heq j hj
        have hn1 : ¬ (x : Int) < (y : Int) := by omega
        have hn2 : ¬ (y : Int) < (x : Int) := by omega
        replace heq := Lib.hid heq
        replace heq' := Lib.hid heq'
        replace hxx := Lib.hid hxx
        replace hyy := Lib.hid hyy
        replace h := Lib.hid h
        go_wp2_with fail
        refine hg1.out.mono ?_
        rintro e w' ⟨rfl, rfl⟩
        go_wp2_with fail
        refine hg2.out.mono ?_
        rintro e w' ⟨rfl, rfl⟩
        go_wp2
        go_roundg m
        case measure => omega
        case rel => exact ⟨by go_num, heq'.out, by omega, rfl⟩
      · have hv : cmpV (X : Int) (Y : Int) = 1 := cmpV_gt (by
          have := lex_lt (m := m) (by omega) hy.dig (fun j hj => (heq j hj).symm) (by rw [hxx, hyy]; exact h)
          rw [hx.val, hy.val] at this; omega)
        have hlt : (y : Int) < (x : Int) := by omega
        have hn1 : ¬ (x : Int) < (y : Int) := by omega
        replace hv := Lib.hid hv
        replace heq := Lib.hid heq
        replace hxx := Lib.hid hxx
        replace hyy := Lib.hid hyy
        go_wp2_with fail
        refine hg1.out.mono ?_
        rintro e w' ⟨rfl, rfl⟩
        go_wp2_with fail
        refine hg2.out.mono ?_
        rintro e w' ⟨rfl, rfl⟩
        go_wp2
        go_ret
        exact ⟨by rw [hv.out]; rfl, rfl⟩
end Go.Proofs.YtniffclplmgcfaaGreatDoor
