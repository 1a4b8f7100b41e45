/- The nat layer: a number by a word. Conditions: lengths below 2^39; the divisor is not 0. -/
import Derived.Test.YtjhdkdfiadlmcaaGreatDoorNatF
namespace Go.Proofs.YtjhdkdfiadlmcaaGreatDoor
open Go.RowKit Go.Cal
/-- What stands at the head of a round of a division by a word: the words from place m on are divided. -/
structure ShortRel (b : Nat) (xs L : List Nat) (y m left : Nat) : Prop where
  len : L.length = xs.length
  dig : Dig b L
  rest : left < y
  low : ∀ i, i < m → L.getD i 0 = 0
  val : vl b (L.drop m) * y + left = vl b (xs.drop m)
theorem ShortRel.start {b : Nat} (hb : 0 < b) (xs : List Nat) {y : Nat} (hy : 0 < y) : ShortRel b xs (List.replicate xs.length 0) y xs.length 0 :=
  ⟨by simp, dig_zeros hb _, hy, fun i _ => by simp [List.getD_eq_getElem?_getD, List.getElem?_replicate]; split <;> rfl, by rw [List.drop_of_length_le (by simp), List.drop_of_length_le (by simp)]; simp [vl]⟩
theorem ShortRel.step {b : Nat} {xs L : List Nat} {y m left x q r : Nat} (h : ShortRel b xs L y (m + 1) left) (hm : m < xs.length) (hx : xs.getD m 0 = x) (hq : q < b) (hr : r < y) (he : left * b + x = q * y + r) :
    ShortRel b xs (L.set m q) y m r := by
  have hlen := h.len
  refine ⟨by rw [List.length_set, h.len], dig_set h.dig _ hq, hr, fun i hi => by rw [Go.Cal.getD_set_ne (by omega)]; exact h.low i (by omega), ?_⟩
  rw [vl_drop (L.set m q) m (by simp; omega), vl_drop xs m hm, getD_set_eq (by omega), hx, List.drop_set_of_lt (by omega)]
  have := h.val
  have e : b * (vl b (L.drop (m + 1)) * y + left) = b * vl b (xs.drop (m + 1)) := by rw [this]
  rw [Nat.mul_add, ← Nat.mul_assoc] at e
  rw [Nat.add_mul]
  rw [Nat.mul_comm left b] at he
  omega
/-- A quotient by a word, and what is left. -/
def RetShort (w : World) (N y : Nat) (e : Ending) (w' : World) : Prop :=
  ∃ A c zs, e = .returned (.tuple #[.slice A (zs : List Nat).length c, .int .u64 ((N % y : Nat) : Int)]) ∧ GotU w' w.heap.size A c zs ∧ Nrm zs (N / y) ∧ Below w.heap.size w w'
set_option maxRecDepth 100000 in
set_option maxHeartbeats 1000000 in
theorem short_any {A1 : Option Addr} {xs : List Nat} (c1 y : Nat) (w : World) (h1 : RdU w w.heap.size A1 xs) (hn1 : xs.length ≤ 549755813888) (d1 : Dig 18446744073709551616 xs) (hy : 0 < y) (hy' : y < 18446744073709551616) :
    Calls Tryz.prog 30 #[.slice A1 xs.length c1, .int .u64 y] w (RetShort w (vl 18446744073709551616 xs) y) := by
  have hmk := run_makeU (P := Tryz.prog) 23 36 under_nat info_u64 xs.length (by omega)
  replace d1 := Lib.hid d1
  go_enter Tryz.func30, Tryz.ntmps30
  go_wp2
  clear hmk
  go_loopw [7, 8] (fun lv iv wr => ∃ (m left : Nat) (L : List Nat), m ≤ xs.length ∧ iv = .int .i64 ((m : Int) - 1) ∧ lv = .int .u64 left ∧ BlkU wr w.heap.size 36 L ∧ Below w.heap.size w wr ∧ ShortRel 18446744073709551616 xs L y m left) (fun _ iv _ => (intOf iv + 1).toNat)
  case atStart => exact ⟨xs.length, 0, _, by omega, rfl, rfl, BlkU.made w 36 _, (Below.refl _ _).alloc (Nat.le_refl _) _, .start (by omega) xs hy⟩
  case round =>
    obtain ⟨m, left, L, hm, rfl, rfl, hB, hbw, hR⟩ := hrel
    have hz := hbw.size
    by_cases h0 : m = 0
    · subst h0
      have hv : vl 18446744073709551616 L = vl 18446744073709551616 xs / y ∧ left = vl 18446744073709551616 xs % y := by
        have := hR.val
        have hl := hR.rest
        rw [List.drop_zero, List.drop_zero] at this
        rw [← this, Nat.mul_comm, Nat.mul_add_div hy, Nat.mul_add_mod, Nat.div_eq_of_lt hl, Nat.mod_eq_of_lt hl]
        exact ⟨rfl, rfl⟩
      replace hv := Lib.hid hv
      go_wp2_with fail
      refine (trim_made _ hB (Nat.le_refl _) hbw hR.len (Nat.le_refl _) (by omega) hR.dig hv.out.1).mono ?_
      rintro e w1 ⟨A, c', zs, rfl, hg, hnrm, hb⟩
      go_wp2
      go_ret2
      exact ⟨A, c', zs, by rw [← hv.out.2]; rfl, hg, hnrm, hb⟩
    · obtain ⟨m, rfl⟩ : ∃ k, m = k + 1 := ⟨m - 1, by omega⟩
      have hmm : m < xs.length := by omega
      have hi : (m : Int) < (xs.length : Int) := by omega
      obtain ⟨b, off, rfl, hb, hcx⟩ := (h1.below hbw).at hmm
      have hx0 := hcx m hmm
      clear hcx
      obtain ⟨x, hxx⟩ : ∃ x, xs.getD m 0 = x := ⟨_, rfl⟩
      have hx1 : x < 18446744073709551616 := hxx ▸ dig_getD (by omega) d1.out m
      rw [hxx] at hx0
      rw [show ((m + 1 : Nat) : Int) - 1 = (m : Int) by omega]
      have hcell := hB.cell m (by rw [hR.len]; omega)
      have hfr := hB.frozen m
      have hdv := div64_any left x y hx1 hR.rest hy' wr
      have hlt : (left * 18446744073709551616 + x) / y < 18446744073709551616 := by
        rw [Nat.div_lt_iff_lt_mul hy]
        have : (left + 1) * 18446744073709551616 ≤ y * 18446744073709551616 := Nat.mul_le_mul_right _ hR.rest
        rw [Nat.mul_comm 18446744073709551616 y]
        omega
      have hst := hR.step hmm hxx hlt (Nat.mod_lt _ hy) (Nat.div_add_mod' (left * 18446744073709551616 + x) y).symm
      have hset := fun (w1 : World) (h : BlkU w1 w.heap.size 36 L) => h.set m ((left * 18446744073709551616 + x) / y)
      obtain ⟨q, hq⟩ : ∃ q, (left * 18446744073709551616 + x) / y = q := ⟨_, rfl⟩
      obtain ⟨r, hr⟩ : ∃ r, (left * 18446744073709551616 + x) % y = r := ⟨_, rfl⟩
      rw [hq] at hdv hst hset
      rw [hr] at hdv hst
      replace hq := Lib.hid hq
      replace hr := Lib.hid hr
      replace hxx := Lib.hid hxx
      replace hdv := Lib.hid hdv
      replace hset := Lib.hid hset
      generalize L.getD m 0 = o at *
      go_wp2_with fail
      refine hdv.out.mono ?_
      rintro e w1 ⟨rfl, n, rfl⟩
      go_wp2
      exact ⟨⟨m, r, _, by omega, rfl, rfl, hset.out _ hB, (hbw.trans (Drawn.below ⟨n, rfl⟩ _)).setCell (Nat.le_refl _) _, hst⟩, by simp [intOf]⟩
end Go.Proofs.YtjhdkdfiadlmcaaGreatDoor
