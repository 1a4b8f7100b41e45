/- The document's half words, sixth part: bits; are words these half words; powers. Conditions: a number's half words are counted. -/
import Derived.Test.YtniffclplmgcfaaGreatDoorRefE
namespace Go.Proofs.YtniffclplmgcfaaGreatDoor
open Go.RowKit Go.Cal
theorem blen_half {x : Nat} (h : 0 < x) : blen x = blen (x / 2) + 1 := by
  unfold blen
  rw [if_neg (by omega)]
  by_cases h2 : x / 2 = 0
  · rw [if_pos h2]
    have : x = 1 := by omega
    subst this; rfl
  · rw [if_neg h2]
    have h1 := Nat.log2_self_le h2
    have h3 := Nat.lt_log2_self (n := x / 2)
    have h4 : x.log2 = (x / 2).log2 + 1 := by
      refine (Nat.log2_eq_iff (by omega)).2 ⟨?_, ?_⟩
      · rw [Nat.pow_succ]; omega
      · rw [Nat.pow_succ]; omega
    omega
theorem blen_join {lo m x : Nat} (hx : 0 < x) (hl : lo < 2 ^ m) : blen (lo + 2 ^ m * x) = m + blen x := by
  obtain ⟨l, hb⟩ : ∃ l, blen x = l + 1 := ⟨blen x - 1, by have := blen_half hx; omega⟩
  have h1 := blen_lt x
  rw [hb] at h1 ⊢
  have h2 : 2 ^ l ≤ x := by
    unfold blen at hb
    rw [if_neg (by omega)] at hb
    have h4 := Nat.log2_self_le (n := x) (by omega)
    rwa [show x.log2 = l by omega] at h4
  refine blen_of (k := m + l) ?_ ?_
  · rw [Nat.pow_add]
    have := Nat.mul_le_mul_left (2 ^ m) h2
    omega
  · rw [Nat.add_assoc, Nat.pow_add]
    have := Nat.mul_le_mul_left (2 ^ m) (show x + 1 ≤ 2 ^ (l + 1) from h1)
    rw [Nat.mul_add] at this
    omega
theorem top_pos {zs : List Nat} {m : Nat} (t : Top zs) (hm : zs.length = m + 1) : 0 < zs.getD m 0 := by
  have h1 := t (by intro e; subst e; simp at hm)
  rw [List.getLast_eq_getElem] at h1
  rw [List.getD_eq_getElem?_getD, List.getElem?_eq_getElem (by omega)]
  have : zs[zs.length - 1]'(by omega) = zs[m]'(by omega) := by congr 1; omega
  rw [this] at h1
  exact Nat.pos_of_ne_zero h1
set_option maxRecDepth 100000 in
set_option maxHeartbeats 2000000 in
theorem rbits_any {v1 : Value} {k1 X : Nat} (w : World) (h1 : IsH w v1 k1 X) (b1 : k1 ≤ 1048576) : Calls Tryz.prog 27 #[v1] w fun e w' => e = .returned (.int .i64 (blen X : Nat)) ∧ w = w' := by
  obtain ⟨A1, c1, xs, rfl, r1, hc1, hm1, hl1, hx⟩ := h1
  by_cases hx0 : xs.length = 0
  · obtain rfl := List.eq_nil_of_length_eq_zero hx0
    have hX : blen X = 0 := by rw [← hx.val]; rfl
    replace hX := Lib.hid hX
    clear hx0
    have htr := rtrim_same c1 w r1 hc1 (by simp) hm1.2 hx
    replace htr := Lib.hid htr
    go_enter Tryz.func27, Tryz.ntmps27
    go_wp2_with fail
    refine htr.out.mono ?_
    rintro e w' ⟨rfl, rfl⟩
    go_wp2
    go_ret
    exact ⟨by rw [hX.out]; rfl, rfl⟩
  · obtain ⟨m, hm⟩ : ∃ m, xs.length = m + 1 := ⟨xs.length - 1, by omega⟩
    have htr := rtrim_same c1 w r1 hc1 (by omega) hm1.2 hx
    have hxp := top_pos hx.top hm
    obtain ⟨b, off, rfl, hb, hcy⟩ := r1.at (i := m) (by omega)
    have hc0 := hcy m (by omega)
    have bx := dig_getD (b := 4294967296) (by omega) hx.dig m
    have hval : X = vl 4294967296 (xs.take m) + 4294967296 ^ m * xs.getD m 0 := by rw [← hx.val, ← vl_getD, vl_take_all _ _ (by omega)]
    obtain ⟨x, hxx⟩ : ∃ x, xs.getD m 0 = x := ⟨_, rfl⟩
    rw [hxx] at hxp hc0 bx hval
    have hbl : blen X = 32 * m + blen x := by
      rw [hval, show 4294967296 ^ m = 2 ^ (32 * m) by rw [show 4294967296 = 2 ^ 32 from rfl, ← Nat.pow_mul]]
      exact blen_join hxp (by have := take_lt (b := 4294967296) (by omega) hx.dig m; rwa [show 4294967296 ^ m = 2 ^ (32 * m) by rw [show 4294967296 = 2 ^ 32 from rfl, ← Nat.pow_mul]] at this)
    have hx32 : blen x ≤ 32 := blen_le (by omega)
    have hne : ((xs.length : Int) == 0) = false := by simpa using hx0
    have hmi : (xs.length : Int) - 1 = (m : Int) := by omega
    have hml : (m : Int) < (xs.length : Int) := by omega
    have hmb : m ≤ 1048576 := by omega
    replace htr := Lib.hid htr
    replace hval := Lib.hid hval
    replace hbl := Lib.hid hbl
    replace hxx := Lib.hid hxx
    replace hm := Lib.hid hm
    clear hcy hx0
    go_enter Tryz.func27, Tryz.ntmps27
    go_wp2_with fail
    refine htr.out.mono ?_
    rintro e w' ⟨rfl, rfl⟩
    go_wp2
    go_loopg [3, 4] x (fun k nv xv wr => ∃ n : Nat, nv = .int .i64 n ∧ xv = .int .u64 k ∧ n + blen k = 32 * m + blen x ∧ k ≤ 4294967295 ∧ w = wr)
    case atStart => exact ⟨32 * m, by go_num, rfl, rfl, by omega, rfl⟩
    case round =>
      obtain ⟨n, rfl, rfl, hnb, hgb, rfl⟩ := hrel
      by_cases h0 : gk = 0
      · subst h0
        have hv : blen X = n := by rw [hbl.out]; rw [blen_zero] at hnb; omega
        replace hv := Lib.hid hv
        replace hnb := Lib.hid hnb
        go_wp2
        go_ret
        exact ⟨by rw [hv.out]; rfl, rfl⟩
      · have hgp : (0 : Int) < (gk : Int) := by omega
        have hh := blen_half (Nat.pos_of_ne_zero h0)
        obtain ⟨g2, hg2⟩ : ∃ g, gk / 2 = g := ⟨_, rfl⟩
        rw [hg2] at hh
        have hgi : (gk : Int) / 2 = (g2 : Int) := by omega
        have hnb2 : n + 1 + blen g2 = 32 * m + blen x := by omega
        have hn3 : n ≤ 33554464 := by omega
        have hdec : g2 < gk := by omega
        have hg2b : g2 ≤ 4294967295 := by omega
        replace hg2 := Lib.hid hg2
        replace hh := Lib.hid hh
        replace hnb := Lib.hid hnb
        replace hnb2 := Lib.hid hnb2
        go_wp2
        go_roundg g2
        case measure => exact hdec
        case rel => exact ⟨n + 1, by go_num, rfl, hnb2.out, by omega, rfl⟩
theorem vl_bit32 {xs : List Nat} (d : Dig 4294967296 xs) (i : Nat) : (xs.getD (i / 32) 0).testBit (i % 32) = (vl 4294967296 xs).testBit i := by
  rw [← vl_at (by omega) d, show 4294967296 = 2 ^ 32 from rfl, ← Nat.pow_mul, Nat.testBit_mod_two_pow]
  rw [decide_eq_true (Nat.mod_lt i (by omega)), Bool.true_and, ← Nat.shiftRight_eq_div_pow, Nat.testBit_shiftRight]
  congr 1
  omega
theorem bit_val32 (x r : Nat) : ((((x : Int) / 2 ^ r).tmod 2 == 1) : Bool) = x.testBit r := by
  have e1 : (x : Int) / 2 ^ r = ((x / 2 ^ r : Nat) : Int) := by push_cast; rfl
  rw [e1, Int.tmod_eq_emod_of_nonneg (Int.natCast_nonneg _), Nat.testBit_eq_decide_div_mod_eq, Bool.eq_iff_iff]
  simp
  omega
set_option maxHeartbeats 1000000 in
theorem rbit_neg (v1 : Value) (i : Int) (w : World) (h : i < 0) :
    Calls Tryz.prog 29 #[v1, .int .i64 i] w fun e w' => e = .returned (.bool false) ∧ w = w' := by
  have h0 : decide (0 ≤ i) = false := by simpa using h
  have h1 : ¬ 0 ≤ i := by omega
  go_enter Tryz.func29, Tryz.ntmps29
  go_wp2
  go_ret
  exact ⟨rfl, rfl⟩
set_option maxRecDepth 100000 in
set_option maxHeartbeats 1000000 in
theorem rbit_any {v1 : Value} {k1 X : Nat} (i : Nat) (hi : i ≤ 9223372036854775807) (w : World) (h1 : IsH w v1 k1 X) :
    Calls Tryz.prog 29 #[v1, .int .i64 i] w fun e w' => e = .returned (.bool (X.testBit i)) ∧ w = w' := by
  obtain ⟨A1, c1, xs, rfl, r1, hc1, hm1, hl1, hx⟩ := h1
  obtain ⟨q, hq⟩ : ∃ q, i / 32 = q := ⟨_, rfl⟩
  obtain ⟨r, hr⟩ : ∃ r, i % 32 = r := ⟨_, rfl⟩
  have hq' : (i : Int) / 32 = (q : Int) := by omega
  have hr' : (i : Int) % 32 = (r : Int) := by omega
  have hr64 : r < 32 := by omega
  have hqb : q ≤ 9223372036854775807 := by omega
  have hb := vl_bit32 hx.dig i
  rw [hq, hr, hx.val] at hb
  have hat := get_any c1 q w r1
  generalize xs.getD q 0 = x at *
  have hv := bit_val32 x r
  rw [hb] at hv
  generalize X.testBit i = bb at *
  replace hq := Lib.hid hq
  replace hr := Lib.hid hr
  replace hat := Lib.hid hat
  replace hb := Lib.hid hb
  clear r1 hc1 hm1 hl1 hx
  go_enter Tryz.func29, Tryz.ntmps29
  go_wp2_with fail
  refine hat.out.mono ?_
  rintro e w' ⟨rfl, rfl⟩
  go_wp2
  go_ret
  exact ⟨rfl, rfl⟩
set_option maxRecDepth 100000 in
set_option maxHeartbeats 1000000 in
theorem rsame_t {v1 v2 : Value} {k1 k2 N : Nat} (w : World) (h1 : IsT w v1 k1 N) (h2 : IsH w v2 k2 N) (b1 : k1 ≤ 524288) (b2 : k2 ≤ 1048576) :
    Calls Tryz.prog 44 #[v1, v2] w fun e w' => e = .returned (.bool true) ∧ Below w.heap.size w w' := by
  have hh := halves_any w h1.isN (by omega)
  obtain ⟨A, c, zs, rfl, r1, hc, hm, hl, hz⟩ := h1
  replace hh := Lib.hid hh
  have key : ∀ w1 u, pH u (2 * k1) N w1 → Below w.heap.size w w1 → Calls Tryz.prog 10 #[u, v2] w1 fun e w' => e = .returned (.int .i64 0) ∧ w1 = w' := fun w1 u hu hb => by
    refine (rcmp_any w1 hu (h2.below hb) (by omega) b2).mono fun e w' ⟨he, hw⟩ => ⟨he.trans ?_, hw⟩
    rw [cmpV_eq rfl]
  replace key := Lib.hid key
  by_cases h0 : zs.length = 0
  · have hn : ¬ (0 : Int) < (zs.length : Int) := by omega
    replace h0 := Lib.hid h0
    go_enter Tryz.func44, Tryz.ntmps44
    go_wp2_with fail
    refine hh.out.mono ?_
    rintro e w1 ⟨u, rfl, hu, hb, -⟩
    go_wp2_with fail
    refine (key.out w1 u hu hb).mono ?_
    rintro e w' ⟨rfl, rfl⟩
    go_wp2
    go_ret
    exact ⟨rfl, hb⟩
  · obtain ⟨m, hm'⟩ : ∃ m, zs.length = m + 1 := ⟨zs.length - 1, by omega⟩
    have hxp := top_pos hz.top hm'
    obtain ⟨b, off, rfl, hb', hcy⟩ := r1.at (i := m) (by omega)
    have hc0 := hcy m (by omega)
    obtain ⟨x, hxx⟩ : ∃ x, zs.getD m 0 = x := ⟨_, rfl⟩
    rw [hxx] at hxp hc0
    have hxe : ((x : Int) == 0) = false := by simp; omega
    have hn : (0 : Int) < (zs.length : Int) := by omega
    have hmi : (zs.length : Int) - 1 = (m : Int) := by omega
    have hml : (m : Int) < (zs.length : Int) := by omega
    replace hxx := Lib.hid hxx
    replace hm' := Lib.hid hm'
    clear hcy h0 hxp
    go_enter Tryz.func44, Tryz.ntmps44
    go_wp2_with fail
    refine hh.out.mono ?_
    rintro e w1 ⟨u, rfl, hu, hb, -⟩
    go_wp2_with fail
    refine (key.out w1 u hu hb).mono ?_
    rintro e w' ⟨rfl, rfl⟩
    go_wp2
    go_ret
    exact ⟨rfl, hb⟩
set_option maxHeartbeats 1000000 in
theorem same_t {v1 v2 : Value} {k1 k2 N : Nat} (w : World) (h1 : IsT w v1 k1 N) (h2 : IsH w v2 k2 N) (b1 : k1 ≤ 524288) (b2 : k2 ≤ 1048576) :
    Calls Tryz.prog 12 #[v1, v2] w fun e w' => e = .returned (.bool true) ∧ Below w.heap.size w w' := by
  go_enter Tryz.func12, Tryz.ntmps12
  go_wp2_with fail
  refine (rsame_t w h1 h2 b1 b2).mono ?_
  rintro e w' ⟨rfl, hb⟩
  go_wp2
  go_ret
  exact ⟨rfl, hb⟩
theorem IsH.lit (w : World) (L : List Nat) (cs : Array Value) (k N : Nat) (hcs : cs = (lU L).toArray) (hd : L.all (· < 4294967296) = true) (ht : Top L) (hk : L.length = k) (hk' : k ≤ 1099511627776) (hv : vl 4294967296 L = N) : IsH (w.alloc (.cells cs 39)) (.slice (some ⟨w.heap.size, 0, none⟩) k k) k N := by
  subst hk; subst hv
  have hrd := ((BlkU.lit w 39 L cs hcs).rd 0 L.length (by omega)).more (B' := (w.alloc (.cells cs 39)).heap.size) (by simp)
  simp only [List.drop_zero, List.take_length] at hrd
  have hl : L.length ≤ maxLen := by unfold maxLen; omega
  exact ⟨_, _, L, rfl, hrd, Nat.le_refl _, ⟨hl, fun e => by cases e⟩, Nat.le_refl _, fun x hx => by simpa using List.all_eq_true.1 hd x hx, ht, rfl⟩
end Go.Proofs.YtniffclplmgcfaaGreatDoor
