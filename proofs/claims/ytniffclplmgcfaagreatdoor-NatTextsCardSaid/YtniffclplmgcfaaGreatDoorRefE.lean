/- The document's half words, fifth part: shifts. Conditions: a number's half words are counted. -/
import Derived.Test.YtniffclplmgcfaaGreatDoorRefD
namespace Go.Proofs.YtniffclplmgcfaaGreatDoor
open Go.RowKit Go.Cal
theorem own_made (w : World) (q : Nat) (hq : q ≤ 1099511627776) : (w.alloc (.cells (madeCells #[.int .u64 0] q) 39)).ownsRow w.heap.size 39 1 (.slice (some ⟨w.heap.size, 0, none⟩) q q) q (lU (List.replicate q 0)) := by
  have h := World.ownsRow_lit (e := 39) (size := 1) (base := w.heap.size) w (madeCells #[.int .u64 0] q) q (Nat.le_refl _) (by unfold maxLen; omega) (by rw [← Array.length_toList, toList_madeCells_one]; simp)
  rw [toList_madeCells_one] at h
  rw [show lU (List.replicate q 0) = List.replicate q (.int .u64 0) by simp [lU]]
  exact h
set_option maxRecDepth 100000 in
set_option maxHeartbeats 2000000 in
theorem up_any {v1 : Value} {k1 X : Nat} (n k' : Nat) (w : World) (h1 : IsH w v1 k1 X) (b1 : k1 ≤ 1048576) (hn : n ≤ 1048576) (hk : X * 2 ^ n < 4294967296 ^ k') : Calls Tryz.prog 23 #[v1, .int .i64 n] w (TellsH w k' (X * 2 ^ n)) := by
  obtain ⟨A1, c1, xs, rfl, r1, hc1, hm1, hl1, hx⟩ := h1
  obtain ⟨i0, hi, hi0, hi1, hi2⟩ := info_parts info_u64
  obtain ⟨q, hq⟩ : ∃ q, n / 32 = q := ⟨_, rfl⟩
  obtain ⟨r, hr⟩ : ∃ r, n % 32 = r := ⟨_, rfl⟩
  have hq' : (n : Int) / 32 = (q : Int) := by omega
  have hr' : (n : Int) % 32 = (r : Int) := by omega
  have hr32 : r < 32 := by omega
  have hqb : q ≤ 1048576 := by omega
  have hp0 := Nat.two_pow_pos r
  have hpH : 2 ^ r ≤ 2147483648 := Nat.pow_le_pow_right (n := 2) (i := r) (j := 31) (by omega) (by omega)
  have hnn : 2 ^ r * 4294967296 ^ q = 2 ^ n := by rw [show 4294967296 = 2 ^ 32 from rfl, ← Nat.pow_mul, ← Nat.pow_add]; congr 1; omega
  have hmk := run_makeU (P := Tryz.prog) 22 39 under_u64s info_u64 q (by omega)
  replace hq := Lib.hid hq
  replace hr := Lib.hid hr
  replace hk := Lib.hid hk
  replace hnn := Lib.hid hnn
  go_enter Tryz.func23, Tryz.ntmps23
  go_wp2
  clear hmk
  go_loopg [5, 6, 7] xs.length (fun k ov cv iv wr => ∃ (i c : Nat) (L : List Nat), iv = .int .i64 i ∧ cv = .int .u64 c ∧ i + k = xs.length ∧ wr.ownsRow w.heap.size 39 1 ov (q + i) (lU L) ∧ Below w.heap.size w wr ∧ UpRel 4294967296 xs L q (2 ^ r) i c)
  case atStart => exact ⟨0, 0, _, rfl, rfl, by omega, own_made w q (by omega), (Below.refl _ _).alloc (Nat.le_refl _) _, .start (by omega) xs q hp0⟩
  case round =>
    obtain ⟨i, c, L, rfl, rfl, hik, hown, hbw, hR⟩ := hrel
    have hzw := hbw.size
    have hcar := hR.car
    have hlen := hR.len
    by_cases h0 : gk = 0
    · subst h0
      have hie : i = xs.length := by omega
      subst hie
      have hv : vl 4294967296 (L ++ [c]) = X * 2 ^ n := by rw [hR.done, hx.val, Nat.mul_assoc, hnn.out]
      have hdig : Dig 4294967296 (L ++ [c]) := dig_append hR.dig (fun z hz => by simp at hz; omega)
      replace hv := Lib.hid hv
      replace hlen := Lib.hid hlen
      clear hR hik
      go_wp2_with (at_builtin; refine wpList_append_own _ rfl _ _ 22 rfl w.heap.size 39 i0 (.int .u64 0) 1 8 under_u64s hi hi0 hi1 hi2 rfl (by decide) u5 (q + xs.length) (lU L) rfl (hown.alloc _) ⟨wr.heap.size, 0, none⟩ 1 1 [.int .u64 c] rfl rfl (one_cell wr 39 _) (fun u hu => by simp at hu; subst hu; rfl) (by unfold maxLen; omega) (by omega) (by simp; omega) ?_)
      intro v' w1 hown' hgr _
      rw [lU_snoc] at hown'
      have hb2 := (hbw.alloc hzw (.cells #[.int .u64 (c : Int)] 39)).grown hgr (by simp; omega) (fun j hj => (hown.lt j hj).1)
      have ht := trim_own (k := k') hown' (by rw [List.length_append, hlen.out]; rfl) hb2 (by rw [List.length_append, hlen.out, List.length_singleton]; omega) hdig hv.out hk.out
      replace ht := Lib.hid ht
      clear hown hgr hown'
      go_wp2_with fail
      refine ht.out.mono ?_
      rintro e w2 ⟨u, rfl, hu, hb⟩
      go_wp2
      go_ret
      exact ⟨u, rfl, hu, hb⟩
    · have hix : i < xs.length := by omega
      have hii : (i : Int) < (xs.length : Int) := by omega
      obtain ⟨b, off, rfl, hb, hcx⟩ := (r1.below hbw).at hix
      have hx0 := hcx i hix
      obtain ⟨x, hxx⟩ : ∃ x, xs.getD i 0 = x := ⟨_, rfl⟩
      have bx : x < 4294967296 := hxx ▸ dig_getD (by omega) hx.dig i
      rw [hxx] at hx0
      have hst := hR.step hxx bx
      obtain ⟨P, hP⟩ : ∃ P, x * 2 ^ r = P := ⟨_, rfl⟩
      have hPb : P ≤ 9223372034707292160 := by
        rw [← hP]
        exact Nat.mul_le_mul (show x ≤ 4294967295 by omega) hpH
      have hPi : (x : Int) * 2 ^ r = (P : Int) := by rw [← hP]; push_cast; rfl
      obtain ⟨S, hS⟩ : ∃ S, P + c = S := ⟨_, rfl⟩
      have hSi : (P : Int) + (c : Int) = (S : Int) := by omega
      rw [hP, hS] at hst
      obtain ⟨lo, hlo⟩ : ∃ l, S % 4294967296 = l := ⟨_, rfl⟩
      obtain ⟨c', hc'⟩ : ∃ l, S / 4294967296 = l := ⟨_, rfl⟩
      rw [hlo, hc'] at hst
      have hloi : (S : Int) % 4294967296 = (lo : Int) := by omega
      have hci : (S : Int) / 4294967296 = (c' : Int) := by omega
      have hcb : c ≤ 2147483648 := by omega
      replace hP := Lib.hid hP
      replace hS := Lib.hid hS
      replace hlo := Lib.hid hlo
      replace hc' := Lib.hid hc'
      replace hxx := Lib.hid hxx
      replace hlen := Lib.hid hlen
      replace hcar := Lib.hid hcar
      clear hcx hR
      go_wp2_with (at_builtin; refine wpList_append_own _ rfl _ _ 22 rfl w.heap.size 39 i0 (.int .u64 0) 1 8 under_u64s hi hi0 hi1 hi2 rfl (by decide) u5 (q + i) (lU L) rfl (hown.alloc _) ⟨wr.heap.size, 0, none⟩ 1 1 [.int .u64 lo] rfl rfl (one_cell wr 39 _) (fun u hu => by simp at hu; subst hu; rfl) (by unfold maxLen; omega) (by omega) (by simp; omega) ?_)
      intro v' w1 hown' hgr _
      rw [lU_snoc] at hown'
      have hb2 := (hbw.alloc hzw (.cells #[.int .u64 (lo : Int)] 39)).grown hgr (by simp; omega) (fun j hj => (hown.lt j hj).1)
      clear hown hgr
      go_wp2
      go_roundg (gk - 1)
      case measure => omega
      case rel => exact ⟨i + 1, c', _, by go_num, rfl, by omega, hown', hb2, hst⟩
theorem down_word {u v r : Nat} (hr : r < 32) (hu : u < 4294967296) : (u + 4294967296 * v) / 2 ^ r % 4294967296 * 2 ^ r + u % 2 ^ r = u + 4294967296 * (v % 2 ^ r) := by
  have hp := Nat.two_pow_pos r
  obtain ⟨m, hm⟩ : ∃ m, 4294967296 = 2 ^ r * m := ⟨2 ^ (32 - r), by rw [← Nat.pow_add, show r + (32 - r) = 32 by omega]⟩
  have hm0 : 0 < m := Nat.pos_of_ne_zero (by rintro rfl; simp at hm)
  have h1 : (u + 4294967296 * v) / 2 ^ r = u / 2 ^ r + m * v := by rw [hm, Nat.mul_assoc, Nat.add_mul_div_left _ _ hp]
  have h2 : u / 2 ^ r < m := by rw [Nat.div_lt_iff_lt_mul hp, Nat.mul_comm, ← hm]; exact hu
  have h3 : (u / 2 ^ r + m * v) % 4294967296 = u / 2 ^ r + m * (v % 2 ^ r) := by
    rw [hm, Nat.mul_comm (2 ^ r) m, Nat.mod_mul, Nat.add_mul_mod_self_left, Nat.mod_eq_of_lt h2, Nat.add_mul_div_left _ _ hm0, Nat.div_eq_of_lt h2, Nat.zero_add]
  rw [h1, h3, Nat.add_mul]
  have h4 : m * (v % 2 ^ r) * 2 ^ r = 4294967296 * (v % 2 ^ r) := by rw [hm, Nat.mul_comm (2 ^ r) m, Nat.mul_assoc, Nat.mul_assoc, Nat.mul_comm (v % 2 ^ r)]
  have h5 := Nat.div_add_mod u (2 ^ r)
  rw [Nat.mul_comm] at h5
  omega
set_option maxRecDepth 100000 in
set_option maxHeartbeats 2000000 in
theorem down_any {v1 : Value} {k1 X : Nat} (n : Nat) (w : World) (h1 : IsH w v1 k1 X) (b1 : k1 ≤ 1048576) (hn : n ≤ 1048576) : Calls Tryz.prog 25 #[v1, .int .i64 n] w (TellsH w k1 (X / 2 ^ n)) := by
  have hk : X / 2 ^ n < 4294967296 ^ k1 := Nat.lt_of_le_of_lt (Nat.div_le_self _ _) h1.lt
  obtain ⟨A1, c1, xs, rfl, r1, hc1, hm1, hl1, hx⟩ := h1
  obtain ⟨i0, hi, hi0, hi1, hi2⟩ := info_parts info_u64
  obtain ⟨q, hq⟩ : ∃ q, n / 32 = q := ⟨_, rfl⟩
  obtain ⟨r, hr⟩ : ∃ r, n % 32 = r := ⟨_, rfl⟩
  have hq' : (n : Int) / 32 = (q : Int) := by omega
  have hr' : (n : Int) % 32 = (r : Int) := by omega
  have hr32 : r < 32 := by omega
  have hqb : q ≤ 1048576 := by omega
  have hp0 := Nat.two_pow_pos r
  have hvx : vl 4294967296 (xs.drop q) / 2 ^ r = X / 2 ^ n := by
    have hs : vl 4294967296 xs / 4294967296 ^ q = vl 4294967296 (xs.drop q) := by
      rcases Nat.lt_or_ge q xs.length with h | h
      · have h1 := take_lt (b := 4294967296) (by omega) hx.dig q
        rw [vl_split xs q (by omega), Nat.add_mul_div_left _ _ (Nat.pow_pos (by omega)), Nat.div_eq_of_lt h1, Nat.zero_add]
      · have h1 := vl_lt hx.dig
        have h2 : 4294967296 ^ xs.length ≤ 4294967296 ^ q := Nat.pow_le_pow_right (by omega) h
        rw [List.drop_eq_nil_of_le h, Nat.div_eq_of_lt (by omega)]; rfl
    rw [← hs, hx.val, Nat.div_div_eq_div_mul, show 4294967296 = 2 ^ 32 from rfl, ← Nat.pow_mul, ← Nat.pow_add]
    congr 2; omega
  have hgd : ∀ j, (xs.drop q).getD j 0 = xs.getD (q + j) 0 := fun j => by simp [List.getD_eq_getElem?_getD, List.getElem?_drop]
  obtain ⟨ys, hys⟩ : ∃ ys, xs.drop q = ys := ⟨_, rfl⟩
  have hyl : ys.length = xs.length - q := by rw [← hys, List.length_drop]
  rw [hys] at hvx hgd
  replace hyl := Lib.hid hyl
  replace hys := Lib.hid hys
  replace hq := Lib.hid hq
  replace hr := Lib.hid hr
  replace hk := Lib.hid hk
  replace hvx := Lib.hid hvx
  replace hgd := Lib.hid hgd
  go_enter Tryz.func25, Tryz.ntmps25
  go_wp2
  go_loopg [5, 6] ys.length (fun k ov iv wr => ∃ (j : Nat) (L : List Nat), iv = .int .i64 ((q + j : Nat) : Int) ∧ j + k = ys.length ∧ wr.ownsRow w.heap.size 39 1 ov j (lU L) ∧ Below w.heap.size w wr ∧ DownRel 4294967296 ys L (2 ^ r) j)
  case atStart => exact ⟨0, [], rfl, by omega, World.ownsRow_lit w #[] 0 (Nat.le_refl _) (by unfold maxLen; omega) rfl, (Below.refl _ _).alloc (Nat.le_refl _) _, .start _ ys _⟩
  case round =>
    obtain ⟨j, L, rfl, hjk, hown, hbw, hR⟩ := hrel
    obtain ⟨i, hie⟩ : ∃ i, q + j = i := ⟨_, rfl⟩
    rw [hie]
    have hzw := hbw.size
    have hlen := hR.len
    have hyl' := hyl.out
    by_cases h0 : gk = 0
    · subst h0
      have hje : j = ys.length := by omega
      subst hje
      have hge : ¬ (i : Int) < (xs.length : Int) := by omega
      have hv : vl 4294967296 L = X / 2 ^ n := by rw [hR.done hp0, hvx.out]
      have ht := trim_own (k := k1) hown hlen.symm hbw (by omega) hR.dig hv hk.out
      replace ht := Lib.hid ht
      replace hie := Lib.hid hie
      replace hyl' := Lib.hid hyl'
      clear hR hjk hown hv hlen
      go_wp2_with fail
      refine ht.out.mono ?_
      rintro e w2 ⟨u, rfl, hu, hb⟩
      go_wp2
      go_ret
      exact ⟨u, rfl, hu, hb⟩
    · have hix : i < xs.length := by omega
      have hii : (i : Int) < (xs.length : Int) := by omega
      obtain ⟨b, off, rfl, hb, hcx⟩ := (r1.below hbw).at hix
      have hx0 := hcx i hix
      obtain ⟨x, hxx⟩ : ∃ x, xs.getD i 0 = x := ⟨_, rfl⟩
      have bx : x < 4294967296 := hxx ▸ dig_getD (by omega) hx.dig i
      rw [hxx] at hx0
      have hg2 := fun n => get_any c1 (i + 1) (wr.drewN n) ((r1.below hbw).drewN n)
      obtain ⟨y, hyy⟩ : ∃ x, xs.getD (i + 1) 0 = x := ⟨_, rfl⟩
      have by' : y < 4294967296 := hyy ▸ dig_getD (by omega) hx.dig (i + 1)
      rw [hyy] at hg2
      have hdw := down_word (v := y) hr32 bx
      have hst := hR.step (o := (x + 4294967296 * y) / 2 ^ r % 4294967296) (Nat.mod_lt _ (by omega)) (by rw [hgd.out, hgd.out, ← Nat.add_assoc, hie, hxx, hyy]; exact hdw)
      obtain ⟨S, hS⟩ : ∃ S, x + 4294967296 * y = S := ⟨_, rfl⟩
      obtain ⟨T, hT⟩ : ∃ T, S / 2 ^ r = T := ⟨_, rfl⟩
      obtain ⟨lo, hlo⟩ : ∃ l, T % 4294967296 = l := ⟨_, rfl⟩
      rw [hS, hT, hlo] at hst
      have hi1w : IntKind.i64.wrap ((i : Int) + 1) = (i : Int) + 1 := by simp [IntKind.wrap, IntKind.bits, IntKind.signed]; omega
      have hSi : (x : Int) + (y : Int) * 4294967296 = (S : Int) := by omega
      have hTi : (S : Int) / 2 ^ r = (T : Int) := by rw [← hT]; push_cast; rfl
      have hloi : (T : Int) % 4294967296 = (lo : Int) := by omega
      have hjb : j ≤ 1048576 := by omega
      replace hg2 := Lib.hid hg2
      replace hS := Lib.hid hS
      replace hT := Lib.hid hT
      replace hlo := Lib.hid hlo
      replace hxx := Lib.hid hxx
      replace hyy := Lib.hid hyy
      replace hie := Lib.hid hie
      replace hlen := Lib.hid hlen
      replace hdw := Lib.hid hdw
      replace hyl' := Lib.hid hyl'
      clear hcx hR
      go_wp2_with fail
      go_quiet ((go_at_call 40; exact Calls.quiet_of_same ((hg2.out _).mono fun _ _ ⟨h, h'⟩ => ⟨h, h'.symm⟩)))
      have hown2 : (wr.drewN nq).ownsRow w.heap.size 39 1 u5 j (lU L) := hown
      have hbw2 : Below w.heap.size w (wr.drewN nq) := hbw.trans (Drawn.below ⟨nq, rfl⟩ _)
      have hzw2 : w.heap.size ≤ (wr.drewN nq).heap.size := hzw
      clear hi1w hx0 hg2 hown hbw hzw
      generalize wr.drewN nq = w2 at hown2 hbw2 hzw2 ⊢
      go_wp2_with (at_builtin; refine wpList_append_own _ rfl _ _ 22 rfl w.heap.size 39 i0 (.int .u64 0) 1 8 under_u64s hi hi0 hi1 hi2 rfl (by decide) u5 j (lU L) rfl (hown2.alloc _) ⟨w2.heap.size, 0, none⟩ 1 1 [.int .u64 lo] rfl rfl (one_cell w2 39 _) (fun u hu => by simp at hu; subst hu; rfl) (by unfold maxLen; omega) (by omega) (by simp; omega) ?_)
      intro v' w1 hown' hgr _
      rw [lU_snoc] at hown'
      have hb2 := (hbw2.alloc hzw2 (.cells #[.int .u64 (lo : Int)] 39)).grown hgr (by simp; omega) (fun j hj => (hown2.lt j hj).1)
      clear hown2 hgr
      go_wp2
      go_roundg (gk - 1)
      case measure => omega
      case rel => exact ⟨j + 1, _, by rw [← Nat.add_assoc, hie.out]; go_num, by omega, hown', hb2, hst⟩
end Go.Proofs.YtniffclplmgcfaaGreatDoor
