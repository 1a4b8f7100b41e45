/- The document's half words, fourth part: products. Conditions: a number's half words are counted. -/
/- The document's half words, fifth part: shifts. Conditions: a number's half words are counted. -/
/- The document's half words, sixth part: bits; are words these half words; powers. Conditions: a number's half words are counted. -/
import Derived.Test.YtncfbleeidjflaaGreatDoorPz25
import Derived.Test.YtncfbleeidjflaaGreatDoorPz03
import Derived.Deep.QuietTactic
import Derived.BigQuiet
namespace Go.Proofs.YtncfbleeidjflaaGreatDoor
open Go.RowKit Go.Cal
/-- The end of a call that hands back what Trim makes of a row that it has made whole. -/
theorem trim_blk {w wr : World} {g n k N : Nat} {L : List Nat} (hB : BlkU wr g 22 L) (hg : w.heap.size ≤ g) (hn : L.length = n) (hb : Below w.heap.size w wr) (hl : n ≤ 1099511627776) (hd : Dig 4294967296 L) (hv : vl 4294967296 L = N) (hk : N < 4294967296 ^ k) :
    Calls Tryz.prog 124 #[.slice (some ⟨g, 0, none⟩) n n] wr (TellsH w k N) := by
  subst hn
  have hr := (hB.rd 0 L.length (by omega)).more hB.lt
  simp only [List.drop_zero, List.take_length] at hr
  refine (rtrim_any L.length wr hr (Nat.le_refl _) hl (fun e => by cases e)).mono ?_
  rintro e w1 ⟨⟨zs, rfl, ⟨m, rfl⟩, ht, hv'⟩, rfl⟩
  have hz : NrmH (L.take m) N := ⟨dig_take hd m, ht, (hv' _).trans hv⟩
  exact ⟨_, rfl, ⟨_, _, L.take m, rfl, hr.take m, by rw [List.length_take]; omega, ⟨by unfold maxLen; omega, fun e => by cases e⟩, hz.length_le hk, hz⟩, hb, fun A' n' c' e a ha => by cases e; cases ha; exact hg⟩
set_option maxRecDepth 100000 in
set_option maxHeartbeats 4000000 in
theorem times_any {v1 v2 : Value} {k1 k2 X Y : Nat} (w : World) (h1 : IsH w v1 k1 X) (h2 : IsH w v2 k2 Y) (b1 : k1 ≤ 1048576) (b2 : k2 ≤ 1048576) : Calls Tryz.prog 126 #[v1, v2] w (TellsH w (k1 + k2) (X * Y)) := by
  have hX := h1.lt
  have hY := h2.lt
  have hk : X * Y < 4294967296 ^ (k1 + k2) := by rw [Nat.pow_add]; exact Nat.mul_lt_mul'' hX hY
  obtain ⟨A1, c1, xs, rfl, r1, hc1, hm1, hl1, hx⟩ := h1
  obtain ⟨A2, c2, ys, rfl, r2, hc2, hm2, hl2, hy⟩ := h2
  have hmk := run_makeU (P := Tryz.prog) 32 22 under_u64s info_u64 (xs.length + ys.length + 1) (by omega)
  rw [Int.natCast_add, Int.natCast_add, Int.natCast_one] at hmk
  replace hk := Lib.hid hk
  clear hX hY
  go_enter Tryz.func126, Tryz.ntmps126
  go_wp2
  clear hmk
  go_loopg [6] xs.length (fun k iv wr => ∃ (i : Nat) (L : List Nat), iv = .int .i64 i ∧ i + k = xs.length ∧ BlkU wr w.heap.size 22 L ∧ Below w.heap.size w wr ∧ TimesRow 4294967296 xs ys L i)
  case atStart => exact ⟨0, _, rfl, by omega, BlkU.made w 22 _, (Below.refl _ _).alloc (Nat.le_refl _) _, .start (by omega) xs ys⟩
  case round =>
    obtain ⟨i, L, rfl, hik, hB, hbw, hR⟩ := hrel
    obtain ⟨g1, rfl⟩ : ∃ g, g = gk := ⟨_, rfl⟩
    by_cases h0 : g1 = 0
    · subst h0
      have hie : i = xs.length := by omega
      subst hie
      have hv : vl 4294967296 L = X * Y := by rw [hR.val, vl_take_all _ _ (Nat.le_refl _), hx.val, hy.val]
      have ht := trim_blk (k := k1 + k2) hB (Nat.le_refl _) hR.len hbw (by omega) hR.dig hv hk.out
      replace ht := Lib.hid ht
      clear hB hv hR hik
      go_wp2_with fail
      refine ht.out.mono ?_
      rintro e w1 ⟨u, rfl, hu, hb⟩
      go_wp2
      go_ret
      exact ⟨u, rfl, hu, hb⟩
    · have hix : i < xs.length := by omega
      have hii : (i : Int) < (xs.length : Int) := by omega
      obtain ⟨x, hxx⟩ : ∃ x, xs.getD i 0 = x := ⟨_, rfl⟩
      have bx : x < 4294967296 := hxx ▸ dig_getD (by omega) hx.dig i
      have hI := hR.into (by omega) x
      replace hxx := Lib.hid hxx
      clear hR
      go_wp2
      go_loopg [7, 8] (2 * (ys.length + 1)) (fun k cv kv wr => ∃ (j c : Nat) (L : List Nat), kv = .int .i64 j ∧ cv = .int .u64 c ∧ k = 2 * (ys.length + 1 - j) + (if c = 0 then 0 else 1) ∧ BlkU wr w.heap.size 22 L ∧ Below w.heap.size w wr ∧ TimesIn 4294967296 xs ys L i x j c)
      case atStart => exact ⟨0, 0, L, rfl, rfl, by simp, hB, hbw, hI⟩
      case round =>
        clear hI hB hbw
        obtain ⟨j, c, L, rfl, rfl, hgk, hB, hbw, hI⟩ := hrel
        have hcar := hI.car
        by_cases hend : ys.length ≤ j ∧ c = 0
        · obtain ⟨e1, rfl⟩ := hend
          have hout := hI.out hxx.out e1
          have n1 : ¬ (j : Int) < (ys.length : Int) := by omega
          replace hgk := Lib.hid hgk
          clear hI
          go_wp2
          go_roundg (g1 - 1)
          case measure => omega
          case rel => exact ⟨i + 1, L, by go_num, by omega, hB, hbw, hout⟩
        · have hjy : j ≤ ys.length := by
            have h1 := hI.kle
            rcases Nat.lt_or_ge ys.length j with h | h
            · exact absurd ⟨by omega, hI.last (by omega)⟩ hend
            · exact h
          have hdis : j < ys.length ∨ (¬ j < ys.length ∧ 0 < c) := by omega
          have hlen := hI.len
          obtain ⟨b, off, rfl, hb, hcx⟩ := (r1.below hbw).at hix
          have hx0 := hcx i hix
          rw [hxx.out] at hx0
          obtain ⟨y, hyy⟩ : ∃ x, ys.getD j 0 = x := ⟨_, rfl⟩
          have by' : y < 4294967296 := hyy ▸ dig_getD (by omega) hy.dig j
          have hg2 := fun n => get_any c2 j (wr.drewN n) ((r2.below hbw).drewN n)
          rw [hyy] at hg2
          obtain ⟨o, hoo⟩ : ∃ o, L.getD (i + j) 0 = o := ⟨_, rfl⟩
          have ho : o < 4294967296 := hoo ▸ dig_getD (by omega) hI.dig _
          have hcell := hB.cell (i + j) (by omega)
          rw [hoo] at hcell
          have hst := hI.step hix hjy bx hyy by' hoo
          obtain ⟨P, hP⟩ : ∃ P, x * y = P := ⟨_, rfl⟩
          have hPb : P ≤ 18446744065119617025 := by
            rw [← hP]
            exact Nat.mul_le_mul (show x ≤ 4294967295 by omega) (show y ≤ 4294967295 by omega)
          obtain ⟨S, hS⟩ : ∃ S, P + o + c = S := ⟨_, rfl⟩
          rw [hP, hS] at hst
          obtain ⟨lo, hlo⟩ : ∃ l, S % 4294967296 = l := ⟨_, rfl⟩
          obtain ⟨c', hc'⟩ : ∃ l, S / 4294967296 = l := ⟨_, rfl⟩
          rw [hlo, hc'] at hst
          have hmul : IntKind.u64.wrap ((x : Int) * (y : Int)) = (P : Int) := by
            rw [wrap_u64, ← Int.natCast_mul, hP]; omega
          obtain ⟨T, hT⟩ : ∃ T, P + o = T := ⟨_, rfl⟩
          have hadd1 : IntKind.u64.wrap ((P : Int) + (o : Int)) = (T : Int) := by rw [wrap_u64]; omega
          have hadd2 : IntKind.u64.wrap ((T : Int) + (c : Int)) = (S : Int) := by rw [wrap_u64]; omega
          have hij : IntKind.i64.wrap ((i : Int) + (j : Int)) = (i : Int) + (j : Int) := by simp [IntKind.wrap, IntKind.bits, IntKind.signed]; omega
          have hijn : ((i : Int) + (j : Int)).toNat = i + j := by omega
          have hij0 : 0 ≤ (i : Int) + (j : Int) := by omega
          have hijl : (i : Int) + (j : Int) < (xs.length : Int) + (ys.length : Int) + 1 := by omega
          have hloi : (S : Int) % 4294967296 = (lo : Int) := by omega
          have hci : (S : Int) / 4294967296 = (c' : Int) := by omega
          have hdec : 2 * (ys.length + 1 - (j + 1)) + (if c' = 0 then 0 else 1) < gk := by rw [hgk]; split <;> split <;> omega
          replace hg2 := Lib.hid hg2
          replace hP := Lib.hid hP
          replace hS := Lib.hid hS
          replace hT := Lib.hid hT
          replace hlo := Lib.hid hlo
          replace hc' := Lib.hid hc'
          replace hyy := Lib.hid hyy
          replace hoo := Lib.hid hoo
          replace hlen := Lib.hid hlen
          replace hgk := Lib.hid hgk
          replace hdec := Lib.hid hdec
          clear hcx hI hend hPb
          rcases hdis with d | ⟨d, d'⟩
          all_goals
            go_wp2_with fail
            go_quiet ((go_at_call 178; exact Calls.quiet_of_same ((hg2.out _).mono fun _ _ ⟨h, h'⟩ => ⟨h, h'.symm⟩)))
            have hB2 : BlkU (wr.drewN nq) w.heap.size 22 L := hB
            have hbw2 : Below w.heap.size w (wr.drewN nq) := hbw.trans (Drawn.below ⟨nq, rfl⟩ _)
            have hcell2 : (wr.drewN nq).cell? ⟨w.heap.size, i + j, none⟩ = some (.int .u64 (o : Int)) := hcell
            clear hmul hadd1 hadd2 hij hcell hx0 hB hbw hg2
            generalize wr.drewN nq = w2 at hB2 hbw2 hcell2 ⊢
            have hset := hB2.set (i + j) lo
            have hfr := hB2.frozen (i + j)
            clear hB2
            go_wp2
            go_roundg (2 * (ys.length + 1 - (j + 1)) + (if c' = 0 then 0 else 1))
            case measure => exact hdec.out
            case rel => exact ⟨j + 1, c', _, by go_num, rfl, rfl, hset, hbw2.setCell (Nat.le_refl _) _, hst⟩
end Go.Proofs.YtncfbleeidjflaaGreatDoor
namespace Go.Proofs.YtncfbleeidjflaaGreatDoor
open Go.RowKit Go.Cal
theorem own_made (w : World) (q : Nat) (hq : q ≤ 1099511627776) : (w.alloc (.cells (madeCells #[.int .u64 0] q) 22)).ownsRow w.heap.size 22 1 (.slice (some ⟨w.heap.size, 0, none⟩) q q) q (lU (List.replicate q 0)) := by
  have h := World.ownsRow_lit (e := 22) (size := 1) (base := w.heap.size) w (madeCells #[.int .u64 0] q) q (Nat.le_refl _) (by unfold maxLen; omega) (by rw [← Array.length_toList, toList_madeCells_one]; simp)
  rw [toList_madeCells_one] at h
  rw [show lU (List.replicate q 0) = List.replicate q (.int .u64 0) by simp [lU]]
  exact h
set_option maxRecDepth 100000 in
set_option maxHeartbeats 2000000 in
theorem up_any {v1 : Value} {k1 X : Nat} (n k' : Nat) (w : World) (h1 : IsH w v1 k1 X) (b1 : k1 ≤ 1048576) (hn : n ≤ 1048576) (hk : X * 2 ^ n < 4294967296 ^ k') : Calls Tryz.prog 129 #[v1, .int .i64 n] w (TellsH w k' (X * 2 ^ n)) := by
  obtain ⟨A1, c1, xs, rfl, r1, hc1, hm1, hl1, hx⟩ := h1
  obtain ⟨i0, hi, hi0, hi1, hi2⟩ := info_parts info_u64
  obtain ⟨q, hq⟩ : ∃ q, n / 32 = q := ⟨_, rfl⟩
  obtain ⟨r, hr⟩ : ∃ r, n % 32 = r := ⟨_, rfl⟩
  have hq' : (n : Int) / 32 = (q : Int) := by omega
  have hr' : (n : Int) % 32 = (r : Int) := by omega
  have hr32 : r < 32 := by omega
  have hqb : q ≤ 1048576 := by omega
  have hp0 := Nat.two_pow_pos r
  have hpH : 2 ^ r ≤ 2147483648 := Nat.pow_le_pow_right (n := 2) (i := r) (j := 31) (by omega) (by omega)
  have hnn : 2 ^ r * 4294967296 ^ q = 2 ^ n := by rw [show 4294967296 = 2 ^ 32 from rfl, ← Nat.pow_mul, ← Nat.pow_add]; congr 1; omega
  have hmk := run_makeU (P := Tryz.prog) 32 22 under_u64s info_u64 q (by omega)
  replace hq := Lib.hid hq
  replace hr := Lib.hid hr
  replace hk := Lib.hid hk
  replace hnn := Lib.hid hnn
  go_enter Tryz.func129, Tryz.ntmps129
  go_wp2
  clear hmk
  go_loopg [5, 6, 7] xs.length (fun k ov cv iv wr => ∃ (i c : Nat) (L : List Nat), iv = .int .i64 i ∧ cv = .int .u64 c ∧ i + k = xs.length ∧ wr.ownsRow w.heap.size 22 1 ov (q + i) (lU L) ∧ Below w.heap.size w wr ∧ UpRel 4294967296 xs L q (2 ^ r) i c)
  case atStart => exact ⟨0, 0, _, rfl, rfl, by omega, own_made w q (by omega), (Below.refl _ _).alloc (Nat.le_refl _) _, .start (by omega) xs q hp0⟩
  case round =>
    obtain ⟨i, c, L, rfl, rfl, hik, hown, hbw, hR⟩ := hrel
    have hzw := hbw.size
    have hcar := hR.car
    have hlen := hR.len
    by_cases h0 : gk = 0
    · subst h0
      have hie : i = xs.length := by omega
      subst hie
      have hv : vl 4294967296 (L ++ [c]) = X * 2 ^ n := by rw [hR.done, hx.val, Nat.mul_assoc, hnn.out]
      have hdig : Dig 4294967296 (L ++ [c]) := dig_append hR.dig (fun z hz => by simp at hz; omega)
      replace hv := Lib.hid hv
      replace hlen := Lib.hid hlen
      clear hR hik
      go_wp2_with (at_builtin; refine wpList_append_own _ rfl _ _ 32 rfl w.heap.size 22 i0 (.int .u64 0) 1 8 under_u64s hi hi0 hi1 hi2 rfl (by decide) u5 (q + xs.length) (lU L) rfl (hown.alloc _) ⟨wr.heap.size, 0, none⟩ 1 1 [.int .u64 c] rfl rfl (one_cell wr 22 _) (fun u hu => by simp at hu; subst hu; rfl) (by unfold maxLen; omega) (by omega) (by simp; omega) ?_)
      intro v' w1 hown' hgr _
      rw [lU_snoc] at hown'
      have hb2 := (hbw.alloc hzw (.cells #[.int .u64 (c : Int)] 22)).grown hgr (by simp; omega) (fun j hj => (hown.lt j hj).1)
      have ht := trim_own (k := k') hown' (by rw [List.length_append, hlen.out]; rfl) hb2 (by rw [List.length_append, hlen.out, List.length_singleton]; omega) hdig hv.out hk.out
      replace ht := Lib.hid ht
      clear hown hgr hown'
      go_wp2_with fail
      refine ht.out.mono ?_
      rintro e w2 ⟨u, rfl, hu, hb⟩
      go_wp2
      go_ret
      exact ⟨u, rfl, hu, hb⟩
    · have hix : i < xs.length := by omega
      have hii : (i : Int) < (xs.length : Int) := by omega
      obtain ⟨b, off, rfl, hb, hcx⟩ := (r1.below hbw).at hix
      have hx0 := hcx i hix
      obtain ⟨x, hxx⟩ : ∃ x, xs.getD i 0 = x := ⟨_, rfl⟩
      have bx : x < 4294967296 := hxx ▸ dig_getD (by omega) hx.dig i
      rw [hxx] at hx0
      have hst := hR.step hxx bx
      obtain ⟨P, hP⟩ : ∃ P, x * 2 ^ r = P := ⟨_, rfl⟩
      have hPb : P ≤ 9223372034707292160 := by
        rw [← hP]
        exact Nat.mul_le_mul (show x ≤ 4294967295 by omega) hpH
      have hPi : (x : Int) * 2 ^ r = (P : Int) := by rw [← hP]; push_cast; rfl
      obtain ⟨S, hS⟩ : ∃ S, P + c = S := ⟨_, rfl⟩
      have hSi : (P : Int) + (c : Int) = (S : Int) := by omega
      rw [hP, hS] at hst
      obtain ⟨lo, hlo⟩ : ∃ l, S % 4294967296 = l := ⟨_, rfl⟩
      obtain ⟨c', hc'⟩ : ∃ l, S / 4294967296 = l := ⟨_, rfl⟩
      rw [hlo, hc'] at hst
      have hloi : (S : Int) % 4294967296 = (lo : Int) := by omega
      have hci : (S : Int) / 4294967296 = (c' : Int) := by omega
      have hcb : c ≤ 2147483648 := by omega
      replace hP := Lib.hid hP
      replace hS := Lib.hid hS
      replace hlo := Lib.hid hlo
      replace hc' := Lib.hid hc'
      replace hxx := Lib.hid hxx
      replace hlen := Lib.hid hlen
      replace hcar := Lib.hid hcar
      clear hcx hR
      go_wp2_with (at_builtin; refine wpList_append_own _ rfl _ _ 32 rfl w.heap.size 22 i0 (.int .u64 0) 1 8 under_u64s hi hi0 hi1 hi2 rfl (by decide) u5 (q + i) (lU L) rfl (hown.alloc _) ⟨wr.heap.size, 0, none⟩ 1 1 [.int .u64 lo] rfl rfl (one_cell wr 22 _) (fun u hu => by simp at hu; subst hu; rfl) (by unfold maxLen; omega) (by omega) (by simp; omega) ?_)
      intro v' w1 hown' hgr _
      rw [lU_snoc] at hown'
      have hb2 := (hbw.alloc hzw (.cells #[.int .u64 (lo : Int)] 22)).grown hgr (by simp; omega) (fun j hj => (hown.lt j hj).1)
      clear hown hgr
      go_wp2
      go_roundg (gk - 1)
      case measure => omega
      case rel => exact ⟨i + 1, c', _, by go_num, rfl, by omega, hown', hb2, hst⟩
end Go.Proofs.YtncfbleeidjflaaGreatDoor
namespace Go.Proofs.YtncfbleeidjflaaGreatDoor
open Go.RowKit Go.Cal
theorem blen_half {x : Nat} (h : 0 < x) : blen x = blen (x / 2) + 1 := by
  unfold blen
  rw [if_neg (by omega)]
  by_cases h2 : x / 2 = 0
  · rw [if_pos h2]
    have : x = 1 := by omega
    subst this; rfl
  · rw [if_neg h2]
    have h1 := Nat.log2_self_le h2
    have h3 := Nat.lt_log2_self (n := x / 2)
    have h4 : x.log2 = (x / 2).log2 + 1 := by
      refine (Nat.log2_eq_iff (by omega)).2 ⟨?_, ?_⟩
      · rw [Nat.pow_succ]; omega
      · rw [Nat.pow_succ]; omega
    omega
theorem blen_join {lo m x : Nat} (hx : 0 < x) (hl : lo < 2 ^ m) : blen (lo + 2 ^ m * x) = m + blen x := by
  obtain ⟨l, hb⟩ : ∃ l, blen x = l + 1 := ⟨blen x - 1, by have := blen_half hx; omega⟩
  have h1 := blen_lt x
  rw [hb] at h1 ⊢
  have h2 : 2 ^ l ≤ x := by
    unfold blen at hb
    rw [if_neg (by omega)] at hb
    have h4 := Nat.log2_self_le (n := x) (by omega)
    rwa [show x.log2 = l by omega] at h4
  refine blen_of (k := m + l) ?_ ?_
  · rw [Nat.pow_add]
    have := Nat.mul_le_mul_left (2 ^ m) h2
    omega
  · rw [Nat.add_assoc, Nat.pow_add]
    have := Nat.mul_le_mul_left (2 ^ m) (show x + 1 ≤ 2 ^ (l + 1) from h1)
    rw [Nat.mul_add] at this
    omega
theorem top_pos {zs : List Nat} {m : Nat} (t : Top zs) (hm : zs.length = m + 1) : 0 < zs.getD m 0 := by
  have h1 := t (by intro e; subst e; simp at hm)
  rw [List.getLast_eq_getElem] at h1
  rw [List.getD_eq_getElem?_getD, List.getElem?_eq_getElem (by omega)]
  have : zs[zs.length - 1]'(by omega) = zs[m]'(by omega) := by congr 1; omega
  rw [this] at h1
  exact Nat.pos_of_ne_zero h1
set_option maxRecDepth 100000 in
set_option maxHeartbeats 2000000 in
theorem rbits_any {v1 : Value} {k1 X : Nat} (w : World) (h1 : IsH w v1 k1 X) (b1 : k1 ≤ 1048576) : Calls Tryz.prog 60 #[v1] w fun e w' => e = .returned (.int .i64 (blen X : Nat)) ∧ w = w' := by
  obtain ⟨A1, c1, xs, rfl, r1, hc1, hm1, hl1, hx⟩ := h1
  by_cases hx0 : xs.length = 0
  · obtain rfl := List.eq_nil_of_length_eq_zero hx0
    have hX : blen X = 0 := by rw [← hx.val]; rfl
    replace hX := Lib.hid hX
    clear hx0
    have htr := rtrim_same c1 w r1 hc1 (by simp) hm1.2 hx
    replace htr := Lib.hid htr
    go_enter Tryz.func60, Tryz.ntmps60
    go_wp2_with fail
    refine htr.out.mono ?_
    rintro e w' ⟨rfl, rfl⟩
    go_wp2
    go_ret
    exact ⟨by rw [hX.out]; rfl, rfl⟩
  · obtain ⟨m, hm⟩ : ∃ m, xs.length = m + 1 := ⟨xs.length - 1, by omega⟩
    have htr := rtrim_same c1 w r1 hc1 (by omega) hm1.2 hx
    have hxp := top_pos hx.top hm
    obtain ⟨b, off, rfl, hb, hcy⟩ := r1.at (i := m) (by omega)
    have hc0 := hcy m (by omega)
    have bx := dig_getD (b := 4294967296) (by omega) hx.dig m
    have hval : X = vl 4294967296 (xs.take m) + 4294967296 ^ m * xs.getD m 0 := by rw [← hx.val, ← vl_getD, vl_take_all _ _ (by omega)]
    obtain ⟨x, hxx⟩ : ∃ x, xs.getD m 0 = x := ⟨_, rfl⟩
    rw [hxx] at hxp hc0 bx hval
    have hbl : blen X = 32 * m + blen x := by
      rw [hval, show 4294967296 ^ m = 2 ^ (32 * m) by rw [show 4294967296 = 2 ^ 32 from rfl, ← Nat.pow_mul]]
      exact blen_join hxp (by have := take_lt (b := 4294967296) (by omega) hx.dig m; rwa [show 4294967296 ^ m = 2 ^ (32 * m) by rw [show 4294967296 = 2 ^ 32 from rfl, ← Nat.pow_mul]] at this)
    have hx32 : blen x ≤ 32 := blen_le (by omega)
    have hne : ((xs.length : Int) == 0) = false := by simpa using hx0
    have hmi : (xs.length : Int) - 1 = (m : Int) := by omega
    have hml : (m : Int) < (xs.length : Int) := by omega
    have hmb : m ≤ 1048576 := by omega
    replace htr := Lib.hid htr
    replace hval := Lib.hid hval
    replace hbl := Lib.hid hbl
    replace hxx := Lib.hid hxx
    replace hm := Lib.hid hm
    clear hcy hx0
    go_enter Tryz.func60, Tryz.ntmps60
    go_wp2_with fail
    refine htr.out.mono ?_
    rintro e w' ⟨rfl, rfl⟩
    go_wp2
    go_loopg [3, 4] x (fun k nv xv wr => ∃ n : Nat, nv = .int .i64 n ∧ xv = .int .u64 k ∧ n + blen k = 32 * m + blen x ∧ k ≤ 4294967295 ∧ w = wr)
    case atStart => exact ⟨32 * m, by go_num, rfl, rfl, by omega, rfl⟩
    case round =>
      obtain ⟨n, rfl, rfl, hnb, hgb, rfl⟩ := hrel
      by_cases h0 : gk = 0
      · subst h0
        have hv : blen X = n := by rw [hbl.out]; rw [blen_zero] at hnb; omega
        replace hv := Lib.hid hv
        replace hnb := Lib.hid hnb
        go_wp2
        go_ret
        exact ⟨by rw [hv.out]; rfl, rfl⟩
      · have hgp : (0 : Int) < (gk : Int) := by omega
        have hh := blen_half (Nat.pos_of_ne_zero h0)
        obtain ⟨g2, hg2⟩ : ∃ g, gk / 2 = g := ⟨_, rfl⟩
        rw [hg2] at hh
        have hgi : (gk : Int) / 2 = (g2 : Int) := by omega
        have hnb2 : n + 1 + blen g2 = 32 * m + blen x := by omega
        have hn3 : n ≤ 33554464 := by omega
        have hdec : g2 < gk := by omega
        have hg2b : g2 ≤ 4294967295 := by omega
        replace hg2 := Lib.hid hg2
        replace hh := Lib.hid hh
        replace hnb := Lib.hid hnb
        replace hnb2 := Lib.hid hnb2
        go_wp2
        go_roundg g2
        case measure => exact hdec
        case rel => exact ⟨n + 1, by go_num, rfl, hnb2.out, by omega, rfl⟩
theorem vl_bit32 {xs : List Nat} (d : Dig 4294967296 xs) (i : Nat) : (xs.getD (i / 32) 0).testBit (i % 32) = (vl 4294967296 xs).testBit i := by
  rw [← vl_at (by omega) d, show 4294967296 = 2 ^ 32 from rfl, ← Nat.pow_mul, Nat.testBit_mod_two_pow]
  rw [decide_eq_true (Nat.mod_lt i (by omega)), Bool.true_and, ← Nat.shiftRight_eq_div_pow, Nat.testBit_shiftRight]
  congr 1
  omega
theorem bit_val32 (x r : Nat) : ((((x : Int) / 2 ^ r).tmod 2 == 1) : Bool) = x.testBit r := by
  have e1 : (x : Int) / 2 ^ r = ((x / 2 ^ r : Nat) : Int) := by push_cast; rfl
  rw [e1, Int.tmod_eq_emod_of_nonneg (Int.natCast_nonneg _), Nat.testBit_eq_decide_div_mod_eq, Bool.eq_iff_iff]
  simp
  omega
set_option maxRecDepth 100000 in
set_option maxHeartbeats 1000000 in
theorem rbit_any {v1 : Value} {k1 X : Nat} (i : Nat) (hi : i ≤ 9223372036854775807) (w : World) (h1 : IsH w v1 k1 X) :
    Calls Tryz.prog 131 #[v1, .int .i64 i] w fun e w' => e = .returned (.bool (X.testBit i)) ∧ w = w' := by
  obtain ⟨A1, c1, xs, rfl, r1, hc1, hm1, hl1, hx⟩ := h1
  obtain ⟨q, hq⟩ : ∃ q, i / 32 = q := ⟨_, rfl⟩
  obtain ⟨r, hr⟩ : ∃ r, i % 32 = r := ⟨_, rfl⟩
  have hq' : (i : Int) / 32 = (q : Int) := by omega
  have hr' : (i : Int) % 32 = (r : Int) := by omega
  have hr64 : r < 32 := by omega
  have hqb : q ≤ 9223372036854775807 := by omega
  have hb := vl_bit32 hx.dig i
  rw [hq, hr, hx.val] at hb
  have hat := get_any c1 q w r1
  generalize xs.getD q 0 = x at *
  have hv := bit_val32 x r
  rw [hb] at hv
  generalize X.testBit i = bb at *
  replace hq := Lib.hid hq
  replace hr := Lib.hid hr
  replace hat := Lib.hid hat
  replace hb := Lib.hid hb
  clear r1 hc1 hm1 hl1 hx
  go_enter Tryz.func131, Tryz.ntmps131
  go_wp2_with fail
  refine hat.out.mono ?_
  rintro e w' ⟨rfl, rfl⟩
  go_wp2
  go_ret
  exact ⟨rfl, rfl⟩
theorem IsH.lit (w : World) (L : List Nat) (cs : Array Value) (k N : Nat) (hcs : cs = (lU L).toArray) (hd : L.all (· < 4294967296) = true) (ht : Top L) (hk : L.length = k) (hk' : k ≤ 1099511627776) (hv : vl 4294967296 L = N) : IsH (w.alloc (.cells cs 22)) (.slice (some ⟨w.heap.size, 0, none⟩) k k) k N := by
  subst hk; subst hv
  have hrd := ((BlkU.lit w 22 L cs hcs).rd 0 L.length (by omega)).more (B' := (w.alloc (.cells cs 22)).heap.size) (by simp)
  simp only [List.drop_zero, List.take_length] at hrd
  have hl : L.length ≤ maxLen := by unfold maxLen; omega
  exact ⟨_, _, L, rfl, hrd, Nat.le_refl _, ⟨hl, fun e => by cases e⟩, Nat.le_refl _, fun x hx => by simpa using List.all_eq_true.1 hd x hx, ht, rfl⟩
end Go.Proofs.YtncfbleeidjflaaGreatDoor
