/- The document's half words, fourth part: products. Conditions: a number's half words are counted. -/
/- The document's half words, fifth part: shifts. Conditions: a number's half words are counted. -/
/- The document's half words, sixth part: bits; are words these half words; powers. Conditions: a number's half words are counted. -/
/- The document's half words, seventh part: powers; how often one number goes into another. Conditions: a number's half words are counted. -/
import Derived.Test.YtabgfdingdmnlaaGreatDoorTells24
import Derived.Deep.QuietTactic
import Derived.BigQuiet
namespace Go.Proofs.YtabgfdingdmnlaaGreatDoor
open Go.RowKit Go.Cal
/-- The end of a call that hands back what Trim makes of a row that it has made whole. -/
theorem trim_blk {w wr : World} {g n k N : Nat} {L : List Nat} (hB : BlkU wr g 50 L) (hg : w.heap.size ≤ g) (hn : L.length = n) (hb : Below w.heap.size w wr) (hl : n ≤ 1099511627776) (hd : Dig 4294967296 L) (hv : vl 4294967296 L = N) (hk : N < 4294967296 ^ k) :
    Calls Tryz.prog 56 #[.slice (some ⟨g, 0, none⟩) n n] wr (TellsH w k N) := by
  subst hn
  have hr := (hB.rd 0 L.length (by omega)).more hB.lt
  simp only [List.drop_zero, List.take_length] at hr
  refine (rtrim_any L.length wr hr (Nat.le_refl _) hl (fun e => by cases e)).mono ?_
  rintro e w1 ⟨⟨zs, rfl, ⟨m, rfl⟩, ht, hv'⟩, rfl⟩
  have hz : NrmH (L.take m) N := ⟨dig_take hd m, ht, (hv' _).trans hv⟩
  exact ⟨_, rfl, ⟨_, _, L.take m, rfl, hr.take m, by rw [List.length_take]; omega, ⟨by unfold maxLen; omega, fun e => by cases e⟩, hz.length_le hk, hz⟩, hb, fun A' n' c' e a ha => by cases e; cases ha; exact hg⟩
set_option maxRecDepth 100000 in
set_option maxHeartbeats 4000000 in
theorem times_any {v1 v2 : Value} {k1 k2 X Y : Nat} (w : World) (h1 : IsH w v1 k1 X) (h2 : IsH w v2 k2 Y) (b1 : k1 ≤ 1048576) (b2 : k2 ≤ 1048576) : Calls Tryz.prog 55 #[v1, v2] w (TellsH w (k1 + k2) (X * Y)) := by
  have hX := h1.lt
  have hY := h2.lt
  have hk : X * Y < 4294967296 ^ (k1 + k2) := by rw [Nat.pow_add]; exact Nat.mul_lt_mul'' hX hY
  obtain ⟨A1, c1, xs, rfl, r1, hc1, hm1, hl1, hx⟩ := h1
  obtain ⟨A2, c2, ys, rfl, r2, hc2, hm2, hl2, hy⟩ := h2
  have hmk := run_makeU (P := Tryz.prog) 24 50 under_u64s info_u64 (xs.length + ys.length + 1) (by omega)
  rw [Int.natCast_add, Int.natCast_add, Int.natCast_one] at hmk
  replace hk := Lib.hid hk
  clear hX hY
  go_enter Tryz.func55, Tryz.ntmps55
  go_wp2
  clear hmk
  go_loopg [6] xs.length (fun k iv wr => ∃ (i : Nat) (L : List Nat), iv = .int .i64 i ∧ i + k = xs.length ∧ BlkU wr w.heap.size 50 L ∧ Below w.heap.size w wr ∧ TimesRow 4294967296 xs ys L i)
  case atStart => exact ⟨0, _, rfl, by omega, BlkU.made w 50 _, (Below.refl _ _).alloc (Nat.le_refl _) _, .start (by omega) xs ys⟩
  case round =>
    obtain ⟨i, L, rfl, hik, hB, hbw, hR⟩ := hrel
    obtain ⟨g1, rfl⟩ : ∃ g, g = gk := ⟨_, rfl⟩
    by_cases h0 : g1 = 0
    · subst h0
      have hie : i = xs.length := by omega
      subst hie
      have hv : vl 4294967296 L = X * Y := by rw [hR.val, vl_take_all _ _ (Nat.le_refl _), hx.val, hy.val]
      have ht := trim_blk (k := k1 + k2) hB (Nat.le_refl _) hR.len hbw (by omega) hR.dig hv hk.out
      replace ht := Lib.hid ht
      clear hB hv hR hik
      go_wp2_with fail
      refine ht.out.mono ?_
      rintro e w1 ⟨u, rfl, hu, hb⟩
      go_wp2
      go_ret
      exact ⟨u, rfl, hu, hb⟩
    · have hix : i < xs.length := by omega
      have hii : (i : Int) < (xs.length : Int) := by omega
      obtain ⟨x, hxx⟩ : ∃ x, xs.getD i 0 = x := ⟨_, rfl⟩
      have bx : x < 4294967296 := hxx ▸ dig_getD (by omega) hx.dig i
      have hI := hR.into (by omega) x
      replace hxx := Lib.hid hxx
      clear hR
      go_wp2
      go_loopg [7, 8] (2 * (ys.length + 1)) (fun k cv kv wr => ∃ (j c : Nat) (L : List Nat), kv = .int .i64 j ∧ cv = .int .u64 c ∧ k = 2 * (ys.length + 1 - j) + (if c = 0 then 0 else 1) ∧ BlkU wr w.heap.size 50 L ∧ Below w.heap.size w wr ∧ TimesIn 4294967296 xs ys L i x j c)
      case atStart => exact ⟨0, 0, L, rfl, rfl, by simp, hB, hbw, hI⟩
      case round =>
        clear hI hB hbw
        obtain ⟨j, c, L, rfl, rfl, hgk, hB, hbw, hI⟩ := hrel
        have hcar := hI.car
        by_cases hend : ys.length ≤ j ∧ c = 0
        · obtain ⟨e1, rfl⟩ := hend
          have hout := hI.out hxx.out e1
          have n1 : ¬ (j : Int) < (ys.length : Int) := by omega
          replace hgk := Lib.hid hgk
          clear hI
          go_wp2
          go_roundg (g1 - 1)
          case measure => omega
          case rel => exact ⟨i + 1, L, by go_num, by omega, hB, hbw, hout⟩
        · have hjy : j ≤ ys.length := by
            have h1 := hI.kle
            rcases Nat.lt_or_ge ys.length j with h | h
            · exact absurd ⟨by omega, hI.last (by omega)⟩ hend
            · exact h
          have hdis : j < ys.length ∨ (¬ j < ys.length ∧ 0 < c) := by omega
          have hlen := hI.len
          obtain ⟨b, off, rfl, hb, hcx⟩ := (r1.below hbw).at hix
          have hx0 := hcx i hix
          rw [hxx.out] at hx0
          obtain ⟨y, hyy⟩ : ∃ x, ys.getD j 0 = x := ⟨_, rfl⟩
          have by' : y < 4294967296 := hyy ▸ dig_getD (by omega) hy.dig j
          have hg2 := fun n => get_any c2 j (wr.drewN n) ((r2.below hbw).drewN n)
          rw [hyy] at hg2
          obtain ⟨o, hoo⟩ : ∃ o, L.getD (i + j) 0 = o := ⟨_, rfl⟩
          have ho : o < 4294967296 := hoo ▸ dig_getD (by omega) hI.dig _
          have hcell := hB.cell (i + j) (by omega)
          rw [hoo] at hcell
          have hst := hI.step hix hjy bx hyy by' hoo
          obtain ⟨P, hP⟩ : ∃ P, x * y = P := ⟨_, rfl⟩
          have hPb : P ≤ 18446744065119617025 := by
            rw [← hP]
            exact Nat.mul_le_mul (show x ≤ 4294967295 by omega) (show y ≤ 4294967295 by omega)
          obtain ⟨S, hS⟩ : ∃ S, P + o + c = S := ⟨_, rfl⟩
          rw [hP, hS] at hst
          obtain ⟨lo, hlo⟩ : ∃ l, S % 4294967296 = l := ⟨_, rfl⟩
          obtain ⟨c', hc'⟩ : ∃ l, S / 4294967296 = l := ⟨_, rfl⟩
          rw [hlo, hc'] at hst
          have hmul : IntKind.u64.wrap ((x : Int) * (y : Int)) = (P : Int) := by
            rw [wrap_u64, ← Int.natCast_mul, hP]; omega
          obtain ⟨T, hT⟩ : ∃ T, P + o = T := ⟨_, rfl⟩
          have hadd1 : IntKind.u64.wrap ((P : Int) + (o : Int)) = (T : Int) := by rw [wrap_u64]; omega
          have hadd2 : IntKind.u64.wrap ((T : Int) + (c : Int)) = (S : Int) := by rw [wrap_u64]; omega
          have hij : IntKind.i64.wrap ((i : Int) + (j : Int)) = (i : Int) + (j : Int) := by simp [IntKind.wrap, IntKind.bits, IntKind.signed]; omega
          have hijn : ((i : Int) + (j : Int)).toNat = i + j := by omega
          have hij0 : 0 ≤ (i : Int) + (j : Int) := by omega
          have hijl : (i : Int) + (j : Int) < (xs.length : Int) + (ys.length : Int) + 1 := by omega
          have hloi : (S : Int) % 4294967296 = (lo : Int) := by omega
          have hci : (S : Int) / 4294967296 = (c' : Int) := by omega
          have hdec : 2 * (ys.length + 1 - (j + 1)) + (if c' = 0 then 0 else 1) < gk := by rw [hgk]; split <;> split <;> omega
          replace hg2 := Lib.hid hg2
          replace hP := Lib.hid hP
          replace hS := Lib.hid hS
          replace hT := Lib.hid hT
          replace hlo := Lib.hid hlo
          replace hc' := Lib.hid hc'
          replace hyy := Lib.hid hyy
          replace hoo := Lib.hid hoo
          replace hlen := Lib.hid hlen
          replace hgk := Lib.hid hgk
          replace hdec := Lib.hid hdec
          clear hcx hI hend hPb
          rcases hdis with d | ⟨d, d'⟩
          all_goals
            go_wp2_with fail
            go_quiet ((go_at_call 76; exact Calls.quiet_of_same ((hg2.out _).mono fun _ _ ⟨h, h'⟩ => ⟨h, h'.symm⟩)))
            have hB2 : BlkU (wr.drewN nq) w.heap.size 50 L := hB
            have hbw2 : Below w.heap.size w (wr.drewN nq) := hbw.trans (Drawn.below ⟨nq, rfl⟩ _)
            have hcell2 : (wr.drewN nq).cell? ⟨w.heap.size, i + j, none⟩ = some (.int .u64 (o : Int)) := hcell
            clear hmul hadd1 hadd2 hij hcell hx0 hB hbw hg2
            generalize wr.drewN nq = w2 at hB2 hbw2 hcell2 ⊢
            have hset := hB2.set (i + j) lo
            have hfr := hB2.frozen (i + j)
            clear hB2
            go_wp2
            go_roundg (2 * (ys.length + 1 - (j + 1)) + (if c' = 0 then 0 else 1))
            case measure => exact hdec.out
            case rel => exact ⟨j + 1, c', _, by go_num, rfl, rfl, hset, hbw2.setCell (Nat.le_refl _) _, hst⟩
end Go.Proofs.YtabgfdingdmnlaaGreatDoor
namespace Go.Proofs.YtabgfdingdmnlaaGreatDoor
open Go.RowKit Go.Cal
theorem own_made (w : World) (q : Nat) (hq : q ≤ 1099511627776) : (w.alloc (.cells (madeCells #[.int .u64 0] q) 50)).ownsRow w.heap.size 50 1 (.slice (some ⟨w.heap.size, 0, none⟩) q q) q (lU (List.replicate q 0)) := by
  have h := World.ownsRow_lit (e := 50) (size := 1) (base := w.heap.size) w (madeCells #[.int .u64 0] q) q (Nat.le_refl _) (by unfold maxLen; omega) (by rw [← Array.length_toList, toList_madeCells_one]; simp)
  rw [toList_madeCells_one] at h
  rw [show lU (List.replicate q 0) = List.replicate q (.int .u64 0) by simp [lU]]
  exact h
theorem down_word {u v r : Nat} (hr : r < 32) (hu : u < 4294967296) : (u + 4294967296 * v) / 2 ^ r % 4294967296 * 2 ^ r + u % 2 ^ r = u + 4294967296 * (v % 2 ^ r) := by
  have hp := Nat.two_pow_pos r
  obtain ⟨m, hm⟩ : ∃ m, 4294967296 = 2 ^ r * m := ⟨2 ^ (32 - r), by rw [← Nat.pow_add, show r + (32 - r) = 32 by omega]⟩
  have hm0 : 0 < m := Nat.pos_of_ne_zero (by rintro rfl; simp at hm)
  have h1 : (u + 4294967296 * v) / 2 ^ r = u / 2 ^ r + m * v := by rw [hm, Nat.mul_assoc, Nat.add_mul_div_left _ _ hp]
  have h2 : u / 2 ^ r < m := by rw [Nat.div_lt_iff_lt_mul hp, Nat.mul_comm, ← hm]; exact hu
  have h3 : (u / 2 ^ r + m * v) % 4294967296 = u / 2 ^ r + m * (v % 2 ^ r) := by
    rw [hm, Nat.mul_comm (2 ^ r) m, Nat.mod_mul, Nat.add_mul_mod_self_left, Nat.mod_eq_of_lt h2, Nat.add_mul_div_left _ _ hm0, Nat.div_eq_of_lt h2, Nat.zero_add]
  rw [h1, h3, Nat.add_mul]
  have h4 : m * (v % 2 ^ r) * 2 ^ r = 4294967296 * (v % 2 ^ r) := by rw [hm, Nat.mul_comm (2 ^ r) m, Nat.mul_assoc, Nat.mul_assoc, Nat.mul_comm (v % 2 ^ r)]
  have h5 := Nat.div_add_mod u (2 ^ r)
  rw [Nat.mul_comm] at h5
  omega
end Go.Proofs.YtabgfdingdmnlaaGreatDoor
namespace Go.Proofs.YtabgfdingdmnlaaGreatDoor
open Go.RowKit Go.Cal
theorem blen_half {x : Nat} (h : 0 < x) : blen x = blen (x / 2) + 1 := by
  unfold blen
  rw [if_neg (by omega)]
  by_cases h2 : x / 2 = 0
  · rw [if_pos h2]
    have : x = 1 := by omega
    subst this; rfl
  · rw [if_neg h2]
    have h1 := Nat.log2_self_le h2
    have h3 := Nat.lt_log2_self (n := x / 2)
    have h4 : x.log2 = (x / 2).log2 + 1 := by
      refine (Nat.log2_eq_iff (by omega)).2 ⟨?_, ?_⟩
      · rw [Nat.pow_succ]; omega
      · rw [Nat.pow_succ]; omega
    omega
theorem blen_join {lo m x : Nat} (hx : 0 < x) (hl : lo < 2 ^ m) : blen (lo + 2 ^ m * x) = m + blen x := by
  obtain ⟨l, hb⟩ : ∃ l, blen x = l + 1 := ⟨blen x - 1, by have := blen_half hx; omega⟩
  have h1 := blen_lt x
  rw [hb] at h1 ⊢
  have h2 : 2 ^ l ≤ x := by
    unfold blen at hb
    rw [if_neg (by omega)] at hb
    have h4 := Nat.log2_self_le (n := x) (by omega)
    rwa [show x.log2 = l by omega] at h4
  refine blen_of (k := m + l) ?_ ?_
  · rw [Nat.pow_add]
    have := Nat.mul_le_mul_left (2 ^ m) h2
    omega
  · rw [Nat.add_assoc, Nat.pow_add]
    have := Nat.mul_le_mul_left (2 ^ m) (show x + 1 ≤ 2 ^ (l + 1) from h1)
    rw [Nat.mul_add] at this
    omega
theorem top_pos {zs : List Nat} {m : Nat} (t : Top zs) (hm : zs.length = m + 1) : 0 < zs.getD m 0 := by
  have h1 := t (by intro e; subst e; simp at hm)
  rw [List.getLast_eq_getElem] at h1
  rw [List.getD_eq_getElem?_getD, List.getElem?_eq_getElem (by omega)]
  have : zs[zs.length - 1]'(by omega) = zs[m]'(by omega) := by congr 1; omega
  rw [this] at h1
  exact Nat.pos_of_ne_zero h1
theorem vl_bit32 {xs : List Nat} (d : Dig 4294967296 xs) (i : Nat) : (xs.getD (i / 32) 0).testBit (i % 32) = (vl 4294967296 xs).testBit i := by
  rw [← vl_at (by omega) d, show 4294967296 = 2 ^ 32 from rfl, ← Nat.pow_mul, Nat.testBit_mod_two_pow]
  rw [decide_eq_true (Nat.mod_lt i (by omega)), Bool.true_and, ← Nat.shiftRight_eq_div_pow, Nat.testBit_shiftRight]
  congr 1
  omega
theorem bit_val32 (x r : Nat) : ((((x : Int) / 2 ^ r).tmod 2 == 1) : Bool) = x.testBit r := by
  have e1 : (x : Int) / 2 ^ r = ((x / 2 ^ r : Nat) : Int) := by push_cast; rfl
  rw [e1, Int.tmod_eq_emod_of_nonneg (Int.natCast_nonneg _), Nat.testBit_eq_decide_div_mod_eq, Bool.eq_iff_iff]
  simp
  omega
theorem IsH.lit (w : World) (L : List Nat) (cs : Array Value) (k N : Nat) (hcs : cs = (lU L).toArray) (hd : L.all (· < 4294967296) = true) (ht : Top L) (hk : L.length = k) (hk' : k ≤ 1099511627776) (hv : vl 4294967296 L = N) : IsH (w.alloc (.cells cs 50)) (.slice (some ⟨w.heap.size, 0, none⟩) k k) k N := by
  subst hk; subst hv
  have hrd := ((BlkU.lit w 50 L cs hcs).rd 0 L.length (by omega)).more (B' := (w.alloc (.cells cs 50)).heap.size) (by simp)
  simp only [List.drop_zero, List.take_length] at hrd
  have hl : L.length ≤ maxLen := by unfold maxLen; omega
  exact ⟨_, _, L, rfl, hrd, Nat.le_refl _, ⟨hl, fun e => by cases e⟩, Nat.le_refl _, fun x hx => by simpa using List.all_eq_true.1 hd x hx, ht, rfl⟩
end Go.Proofs.YtabgfdingdmnlaaGreatDoor
namespace Go.Proofs.YtabgfdingdmnlaaGreatDoor
open Go.RowKit Go.Cal
theorem size_alloc1 (w : World) (o : Obj) : (w.alloc o).heap.size = w.heap.size + 1 := by simp
/-- A call tells one number in half words. -/
def TellsH0 (w : World) (k N : Nat) (e : Ending) (w' : World) : Prop := ∃ v, e = .returned v ∧ pH v k N w' ∧ Below w.heap.size w w'
/-- A slice of words that the text itself lays. -/
theorem isN_lit (w : World) (L : List Nat) (cs : Array Value) (k N : Nat) (hcs : cs = (lU L).toArray) (hd : Dig 18446744073709551616 L) (hk : L.length = k) (hv : vl 18446744073709551616 L = N) : IsN (w.alloc (.cells cs 50)) (.slice (some ⟨w.heap.size, 0, none⟩) k k) k N := by
  subst hk; subst hv
  exact .lit w L cs hcs hd
/-- How often, digit by digit. -/
structure OverRel (H : Nat) (n X Y : Nat) (L : List Nat) (i R : Nat) : Prop where
  len : L.length = n
  dig : Dig H L
  val : vl H L = 2 ^ i * (X / 2 ^ i / Y)
  rest : R = X / 2 ^ i % Y
theorem half_step (X m : Nat) : X / 2 ^ m = 2 * (X / 2 ^ (m + 1)) + (if X.testBit m then 1 else 0) := by
  rw [Nat.testBit_eq_decide_div_mod_eq, Nat.pow_succ, ← Nat.div_div_eq_div_mul]
  have h1 := Nat.div_add_mod (X / 2 ^ m) 2
  by_cases h : X / 2 ^ m % 2 = 1
  · simp [h]; omega
  · simp [h]; omega
theorem over_less {H n X Y : Nat} {L : List Nat} {m R b : Nat} (h : OverRel H n X Y L (m + 1) R) (hY : 0 < Y) (hb : X / 2 ^ m = 2 * (X / 2 ^ (m + 1)) + b) (hlt : 2 * R + b < Y) : OverRel H n X Y L m (2 * R + b) := by
  have hr := h.rest
  have hd := Nat.div_add_mod (X / 2 ^ (m + 1)) Y
  rw [← hr] at hd
  have hval := h.val
  generalize X / 2 ^ (m + 1) / Y = K at hd hval
  have e : X / 2 ^ m = Y * (2 * K) + (2 * R + b) := by
    rw [hb, Nat.mul_left_comm]; omega
  refine ⟨h.len, h.dig, ?_, ?_⟩
  · rw [hval, e, Nat.mul_add_div hY, Nat.div_eq_of_lt hlt]; simp only [Nat.add_zero, Nat.pow_succ, Nat.mul_assoc]
  · rw [e, Nat.mul_add_mod, Nat.mod_eq_of_lt hlt]
theorem over_more {n X Y : Nat} {L : List Nat} {m R b d : Nat} (h : OverRel 4294967296 n X Y L (m + 1) R) (hY : 0 < Y) (hb1 : b ≤ 1) (hb : X / 2 ^ m = 2 * (X / 2 ^ (m + 1)) + b) (hge : Y ≤ 2 * R + b) (hm : m / 32 < n) (hd : L.getD (m / 32) 0 = d) :
    d + 2 ^ (m % 32) < 4294967296 ∧ OverRel 4294967296 n X Y (L.set (m / 32) (d + 2 ^ (m % 32))) m (2 * R + b - Y) := by
  have hr := h.rest
  have hlt : R < Y := hr ▸ Nat.mod_lt _ hY
  have hdm := Nat.div_add_mod (X / 2 ^ (m + 1)) Y
  rw [← hr] at hdm
  generalize hK : X / 2 ^ (m + 1) / Y = K at hdm
  have hr32 := Nat.mod_lt m (show 0 < 32 by omega)
  have e : X / 2 ^ m = Y * (2 * K + 1) + (2 * R + b - Y) := by
    rw [hb, Nat.mul_add, Nat.mul_left_comm]; omega
  have hdb : d + 2 ^ (m % 32) < 4294967296 := by
    have h1 := vl_at (b := 4294967296) (by omega) h.dig (m / 32)
    rw [hd, h.val, hK] at h1
    have h2 : 2 ^ (m + 1) * K / 4294967296 ^ (m / 32) = 2 ^ (m % 32 + 1) * K := by
      rw [show 4294967296 ^ (m / 32) = 2 ^ (32 * (m / 32)) by rw [show 4294967296 = 2 ^ 32 from rfl, ← Nat.pow_mul], show m + 1 = 32 * (m / 32) + (m % 32 + 1) by omega, Nat.pow_add, Nat.mul_assoc, Nat.mul_div_cancel_left _ (Nat.two_pow_pos _)]
    rw [h2] at h1
    obtain ⟨M, hM⟩ : ∃ M, 4294967296 = 2 ^ (m % 32 + 1) * M := ⟨2 ^ (31 - m % 32), by rw [← Nat.pow_add, show m % 32 + 1 + (31 - m % 32) = 32 by omega]⟩
    rw [hM, Nat.mul_mod_mul_left] at h1
    have hM0 : 0 < M := Nat.pos_of_ne_zero (by rintro rfl; simp at hM)
    have h3 := Nat.mod_lt K hM0
    have h4 := Nat.mul_le_mul_left (2 ^ (m % 32 + 1)) (show K % M + 1 ≤ M from h3)
    rw [Nat.mul_add, h1, ← hM, Nat.mul_one, Nat.pow_succ] at h4
    have := Nat.two_pow_pos (m % 32)
    omega
  refine ⟨hdb, by rw [List.length_set]; exact h.len, dig_set h.dig _ hdb, ?_, ?_⟩
  · have hset := vl_set (b := 4294967296) L (m / 32) (d + 2 ^ (m % 32)) (by rw [h.len]; exact hm)
    rw [hd, h.val, hK, Nat.mul_add] at hset
    have hp : 4294967296 ^ (m / 32) * 2 ^ (m % 32) = 2 ^ m := by rw [show 4294967296 = 2 ^ 32 from rfl, ← Nat.pow_mul, ← Nat.pow_add]; congr 1; omega
    rw [hp] at hset
    rw [e, Nat.mul_add_div hY, Nat.div_eq_of_lt (show 2 * R + b - Y < Y by omega), Nat.add_zero, Nat.mul_add, Nat.mul_one]
    rw [Nat.pow_succ, Nat.mul_assoc] at hset
    omega
  · rw [e, Nat.mul_add_mod, Nat.mod_eq_of_lt (show 2 * R + b - Y < Y by omega)]
/-- The end of a row made whole: what Trim makes of it; the world stays. -/
theorem trim_blk_same {wr : World} {g n k N : Nat} {L : List Nat} (hB : BlkU wr g 50 L) (hn : L.length = n) (hl : n ≤ 1099511627776) (hd : Dig 4294967296 L) (hv : vl 4294967296 L = N) (hk : N < 4294967296 ^ k) :
    Calls Tryz.prog 56 #[.slice (some ⟨g, 0, none⟩) n n] wr fun e w' => ∃ v, e = .returned v ∧ pH v k N w' ∧ wr = w' := by
  subst hn
  have hr := (hB.rd 0 L.length (by omega)).more hB.lt
  simp only [List.drop_zero, List.take_length] at hr
  refine (rtrim_any L.length wr hr (Nat.le_refl _) hl (fun e => by cases e)).mono ?_
  rintro e w1 ⟨⟨zs, rfl, ⟨m, rfl⟩, ht, hv'⟩, rfl⟩
  have hz : NrmH (L.take m) N := ⟨dig_take hd m, ht, (hv' _).trans hv⟩
  exact ⟨_, rfl, ⟨_, _, L.take m, rfl, hr.take m, by rw [List.length_take]; omega, ⟨by unfold maxLen; omega, fun e => by cases e⟩, hz.length_le hk, hz⟩, rfl⟩
/-- A call tells two numbers in half words. -/
def TellsHH (w : World) (k N k' N' : Nat) (e : Ending) (w' : World) : Prop := ∃ v v', e = .returned (.tuple #[v, v']) ∧ pH v k N w' ∧ pH v' k' N' w' ∧ Below w.heap.size w w'
theorem pH.far {w : World} {v : Value} {k N g i : Nat} {u : Value} (h : pH v k N w) (hf : ∀ A n c, v = .slice A n c → ∀ a, A = some a → a.block ≠ g) : pH v k N (w.setCell ⟨g, i, none⟩ u) := by
  obtain ⟨A, c, zs, rfl, hr, h3⟩ := h
  refine ⟨A, c, zs, rfl, ⟨?_, fun b off e j hj => ?_⟩, h3⟩
  · rcases hr.place with h | ⟨b, off, e, hb⟩
    · exact .inl h
    · exact .inr ⟨b, off, e, by simpa [World.setCell] using hb⟩
  · rw [World.cell?_setCell_other _ _ _ _ (fun e2 => hf _ _ _ rfl _ e (by have := congrArg Addr.block e2; exact this.symm))]
    exact hr.cells b off e j hj
theorem over_start {n X Y : Nat} (i : Nat) (hi : X < 2 ^ i) : OverRel 4294967296 n X Y (List.replicate n 0) i 0 :=
  ⟨by simp, dig_zeros (by omega) _, by rw [vl_zeros, Nat.div_eq_of_lt hi, Nat.zero_div, Nat.mul_zero], by rw [Nat.div_eq_of_lt hi, Nat.zero_mod]⟩
end Go.Proofs.YtabgfdingdmnlaaGreatDoor
