/- The nat layer: Pow. Conditions: none. -/
/- The numeral of a word: strconv.FormatUint at base 10. Condition: the table of powers reads as it is laid. -/
/- Posits: a magnitude's fields and number, walked. Condition: the library's table of noughts. -/
/- Posits: a magnitude's number, walked. Condition: the library's table of noughts. -/
/- The forms like the IEEE's: a magnitude's number, walked. Condition: the library's table of noughts. -/
import Derived.Test.YtncfbleeidjflaaGreatDoorSu12
import Derived.Lib.AppendIntMem
import Derived.Test.YtncfbleeidjflaaGreatDoorSu01
import Derived.Test.YtncfbleeidjflaaGreatDoorSu07
import Derived.Test.YtncfbleeidjflaaGreatDoorSu11
import Derived.Shelf.Spec.TrailingZeros
import Derived.Laws.Bits64
namespace Go.Proofs.YtncfbleeidjflaaGreatDoor
open Go.RowKit Go.Cal
/-- At the head of a round. -/
def PowRel (w wr : World) (base n0 : Nat) (nv ov sv : Value) : Prop :=
  ∃ (n q p : Nat) (A1 : Option Addr) (c1 : Nat) (z1 : List Nat) (A2 : Option Addr) (c2 : Nat) (z2 : List Nat), nv = .int .i64 n ∧ ov = .slice A1 z1.length c1 ∧ sv = .slice A2 z2.length c2 ∧
    GotW wr w.heap.size A1 c1 z1 ∧ Nrm z1 (base ^ q) ∧ GotW wr w.heap.size A2 c2 z2 ∧ Nrm z2 (base ^ p) ∧ Below w.heap.size w wr ∧ q + p * n = n0 ∧ p ≤ n0 + 1 ∧ 1 ≤ p
theorem pow_len' {z : List Nat} {base p k : Nat} (hb : base < 18446744073709551616) (hp : p ≤ k) (h : Nrm z (base ^ p)) : z.length ≤ k + 1 := by
  refine h.length_le ?_
  have h1 : base ^ p ≤ 18446744073709551616 ^ p := Nat.pow_le_pow_left (by omega) p
  have h2 : 18446744073709551616 ^ p ≤ 18446744073709551616 ^ k := Nat.pow_le_pow_right (by omega) hp
  have h3 : 18446744073709551616 ^ k < 18446744073709551616 ^ (k + 1) := Nat.pow_lt_pow_right (by omega) (by omega)
  exact Nat.lt_of_le_of_lt (Nat.le_trans h1 h2) h3
theorem pow_len {z : List Nat} {base p : Nat} (hb : base < 18446744073709551616) (hp : p ≤ 10001) (h : Nrm z (base ^ p)) : z.length ≤ 10002 := pow_len' hb hp h
set_option maxRecDepth 100000 in
set_option maxHeartbeats 2000000 in
theorem pow_min (base : Nat) (hb : base < 18446744073709551616) (n : Int) (n0 : Nat) (hmin : min (max n 0) 10000 = (n0 : Int)) (w : World) :
    Calls Tryz.prog 48 #[.int .u64 base, .int .i64 n] w (RetW w (base ^ n0)) := by
  have hn0 : n0 ≤ 10000 := by omega
  go_enter Tryz.func48, Tryz.ntmps48
  go_wp2_with fail
  refine (of_any 1 (by omega) w).mono ?_
  rintro e w1 ⟨A1, c1, z1, rfl, g1, n1, hb1⟩
  have hz1 := hb1.size
  go_wp2_with fail
  refine (of_any base hb w1).mono ?_
  rintro e w2 ⟨A2, c2, z2, rfl, g2, n2, hb2⟩
  have hz2 := hb2.size
  have g1' := g1.below hb2
  have g2' := gotW_base g2 hz1
  have hb12 := chain hb1 hb2
  clear g1 g2 hb1 hb2
  go_wp2
  clear hmin
  go_loopw [1, 5, 6] (fun nv ov sv wr => PowRel w wr base n0 nv ov sv) (fun nv _ _ _ => (intOf nv).toNat)
  case atStart => exact ⟨n0, 0, 1, A1, c1, z1, A2, c2, z2, rfl, rfl, rfl, g1', by rw [Nat.pow_zero]; exact n1, g2', by rw [Nat.pow_one]; exact n2, hb12, by omega, by omega, by omega⟩
  case round =>
    clear g1' g2' hb12 n1 n2 hz1 hz2
    obtain ⟨n, q, p, A1, c1, z1, A2, c2, z2, rfl, rfl, rfl, g1, n1, g2, n2, hbw, hq, hp, hp1⟩ := hrel
    have hzw := hbw.size
    by_cases h0 : n = 0
    · subst h0
      rw [Nat.mul_zero, Nat.add_zero] at hq
      subst hq
      go_wp2
      go_ret
      exact ⟨A1, c1, z1, rfl, g1, n1, hbw⟩
    · have hpn : n ≤ p * n := Nat.le_mul_of_pos_left n hp1
      have hn : n ≤ 10000 := by omega
      have hl1 := pow_len hb (by omega) n1
      have hl2 := pow_len hb (by omega) n2
      obtain ⟨m, hm⟩ : ∃ m, n / 2 = m := ⟨_, rfl⟩
      have hm' : (n : Int) / 2 = (m : Int) := by omega
      have hn0' : (0 : Int) < (n : Int) := by omega
      have r1 := (g1.rd)
      have r2 := (g2.rd)
      by_cases hodd : n % 2 = 1
      · have ho : ((n : Int) % 2 == 1) = true := by simp; omega
        have hnm : n = 2 * m + 1 := by omega
        have hq2 : q + p + (p + p) * m = n0 := by rw [← hq, hnm, Nat.mul_add, ← Nat.mul_assoc, Nat.mul_one, Nat.mul_two]; omega
        replace hm := Lib.hid hm
        replace hq := Lib.hid hq
        replace hq2 := Lib.hid hq2
        replace hnm := Lib.hid hnm
        replace hodd := Lib.hid hodd
        go_wp2_with fail
        refine (mul_any c1 c2 wr r1 r2 (by omega) (by omega) n1.dig n2.dig).mono ?_
        rintro e w3 ⟨A3, c3, z3, rfl, g3, n3, hb3⟩
        have hz3 := hb3.size
        rw [n1.val, n2.val, ← Nat.pow_add] at n3
        have g2' := g2.below hb3
        have g3' := gotW_base (gotU_toW g3) hzw
        have hbw' := chain hbw hb3
        by_cases hgt : 1 < n
        · have hgt' : (1 : Int) < (n : Int) := by omega
          go_wp2_with fail
          refine (mul_any c2 c2 w3 g2'.rd g2'.rd (by omega) (by omega) n2.dig n2.dig).mono ?_
          rintro e w4 ⟨A4, c4, z4, rfl, g4, n4, hb4⟩
          rw [n2.val, ← Nat.pow_add] at n4
          have hz4 := hb4.size
          have hle : p + p ≤ n0 + 1 := by
            have h1 := hq.out
            have h2 : p * 2 ≤ p * n := Nat.mul_le_mul_left p hgt
            omega
          go_wp2
          exact ⟨⟨m, q + p, p + p, A3, c3, z3, A4, c4, z4, rfl, rfl, rfl, g3'.below hb4, n3, gotW_base (gotU_toW g4) (by omega), n4, chain hbw' hb4, hq2.out, hle, by omega⟩, by simp [intOf]; have := hm.out; omega⟩
        · have hgt' : ¬ (1 : Int) < (n : Int) := by omega
          have hm0 : m = 0 := by have := hnm.out; omega
          have hend : q + p + p * m = n0 := by have := hq2.out; rw [hm0] at this ⊢; simpa using this
          replace hm0 := Lib.hid hm0
          replace hend := Lib.hid hend
          go_wp2
          exact ⟨⟨m, q + p, p, A3, c3, z3, A2, c2, z2, rfl, rfl, rfl, g3', n3, g2', n2, hbw', hend.out, hp, hp1⟩, by simp [intOf]; have := hm.out; omega⟩
      · have ho : ((n : Int) % 2 == 1) = false := by simp; omega
        have hnm : n = 2 * m := by omega
        have hq2 : q + (p + p) * m = n0 := by rw [← hq, hnm, ← Nat.mul_assoc, Nat.mul_two]
        have hgt' : (1 : Int) < (n : Int) := by omega
        have hgt : 1 < n := by omega
        have hle : p + p ≤ n0 + 1 := by
          have h2 : p * 2 ≤ p * n := Nat.mul_le_mul_left p hgt
          omega
        replace hm := Lib.hid hm
        replace hq := Lib.hid hq
        replace hq2 := Lib.hid hq2
        replace hnm := Lib.hid hnm
        replace hodd := Lib.hid hodd
        go_wp2_with fail
        refine (mul_any c2 c2 wr r2 r2 (by omega) (by omega) n2.dig n2.dig).mono ?_
        rintro e w4 ⟨A4, c4, z4, rfl, g4, n4, hb4⟩
        rw [n2.val, ← Nat.pow_add] at n4
        go_wp2
        exact ⟨⟨m, q, p + p, A1, c1, z1, A4, c4, z4, rfl, rfl, rfl, g1.below hb4, n1, gotW_base (gotU_toW g4) hzw, n4, chain hbw hb4, hq2.out, hle, by omega⟩, by simp [intOf]; have := hm.out; omega⟩
theorem pow_any (base : Nat) (hb : base < 18446744073709551616) (n : Int) (w : World) :
    Calls Tryz.prog 48 #[.int .u64 base, .int .i64 n] w (RetW w (base ^ (min (max n 0) 10000).toNat)) :=
  pow_min base hb n _ (by omega) w
end Go.Proofs.YtncfbleeidjflaaGreatDoor
namespace Go.Proofs.YtncfbleeidjflaaGreatDoor
open Go.RowKit Go.Cal Go.Sort
/-- The table of powers. -/
def Tab10 (w : World) : Prop := Lib.TabIs Tryz.prog w "internal/strconv.uint64pow10" .u64 Lib.pow10Tab
theorem var_keep {P : Program} {w w' : World} {name : String} {cs : Array Value} (h : w.var? P name = some cs) (hb : Below w.heap.size w w') : w'.var? P name = some cs := by
  unfold World.var? at *
  cases hg : P.globalNamed name with
  | none => simp [hg] at h
  | some g =>
    simp only [hg, Option.bind_some] at h ⊢
    have hlt : g < w.heap.size := by
      rcases Nat.lt_or_ge g w.heap.size with h' | h'
      · exact h'
      · rw [Array.getElem?_eq_none h'] at h; simp at h
    rw [hb.block g hlt]
    exact h
theorem Tab10.below {w w' : World} (h : Tab10 w) (hb : Below w.heap.size w w') : Tab10 w' := var_keep h hb
theorem Tab10.chain {w wa w' : World} (h : Tab10 wa) (hb : Below w.heap.size w w') (ha : w.heap.size = wa.heap.size) (he : ∀ g, g < w.heap.size → wa.heap[g]? = w.heap[g]?) : Tab10 w' := by
  unfold Tab10 Lib.TabIs World.var? at *
  cases hg : Tryz.prog.globalNamed "internal/strconv.uint64pow10" with
  | none => simp [hg] at h
  | some g =>
    simp only [hg, Option.bind_some] at h ⊢
    have hlt : g < w.heap.size := by
      rcases Nat.lt_or_ge g w.heap.size with h' | h'
      · exact h'
      · rw [Array.getElem?_eq_none (by omega)] at h; simp at h
    rw [hb.block g hlt, ← he g hlt]
    exact h
end Go.Proofs.YtncfbleeidjflaaGreatDoor
namespace Go.Proofs.YtncfbleeidjflaaGreatDoor
open Go.RowKit Go.Cal
/-- The library's table of noughts stands in its variable. -/
def TabD (w : World) : Prop := 12 < w.heap.size ∧ Go.Proofs.TabAt 12 Lib.deBruijn64tab w
theorem TabD.below {w w' : World} (h : TabD w) (hb : Below w.heap.size w w') : TabD w' :=
  ⟨Nat.lt_of_lt_of_le h.1 hb.size, fun j hj => by rw [(bcell hb).1 _ _ h.1]; exact h.2 j hj⟩
theorem bitLen_bl (x : Nat) (h : x < 18446744073709551616) : Lib.bitLen x = bl x := by
  obtain ⟨h1, h2⟩ := bitLen_spec x x (Nat.le_refl _) (by omega)
  by_cases h0 : x = 0
  · subst h0; decide
  · obtain ⟨h3, h4⟩ := h2 h0
    have h5 := bl_iff.2 h1
    have h6 : ¬ bl x ≤ Lib.bitLen x - 1 := fun h7 => by have := bl_iff.1 h7; omega
    omega
theorem lz_bl (x : Nat) (hx : x < 18446744073709551616) (w : World) : Calls Tryz.prog 184 #[.int .u64 x] w fun e w' => e = .returned (.int .i64 ((64 - bl x : Nat) : Int)) ∧ w = w' := by
  refine (Tryz.bits_LeadingZeros64 x w (by omega) (by omega)).mono fun e w' ⟨h, h'⟩ => ⟨?_, h'.symm⟩
  rw [Int.toNat_natCast, bitLen_bl x hx] at h
  have h1 : bl x ≤ 64 := bl_iff.2 (by omega)
  rw [h]
  congr 2
  omega
theorem tz_core (x k idx : Nat) (w : World) (hx0 : ((x : Int) == 0) = false)
    (key : IntKind.u64.wrap (bits BinOp.and IntKind.u64 (x : Int) (IntKind.u64.wrap (-(x : Int))) * 285870213051353865) / 288230376151711744 = (idx : Int))
    (hi : idx < 64) (hk : k < 64) (hcell : w.cell? ⟨12, idx, none⟩ = some (.int .u8 k)) :
    Calls Tryz.prog 229 #[.int .u64 x] w fun e w' => e = .returned (.int .i64 k) ∧ w = w' := by
  go_enter Tryz.func229, Tryz.ntmps229
  go_wp2_with (simp only [key])
  go_ret
  exact ⟨rfl, rfl⟩
theorem tz_any (x : Nat) (h0 : 0 < x) (hx : x < 18446744073709551616) (w : World) (hT : TabD w) : Calls Tryz.prog 229 #[.int .u64 x] w fun e w' => e = .returned (.int .i64 (tzN 64 x : Nat)) ∧ w = w' := by
  obtain ⟨hlow, hk⟩ := Lib.lowest_bit 64 x (by omega) hx
  obtain ⟨hi, htab⟩ := Lib.deBruijn64_at _ hk
  have hc : Lib.ctz 64 x = tzN 64 x := ctz_tz h0
  have hkey := Go.Proofs.tz64_key x _ hx (by omega) hlow
  rw [hc] at hkey hi htab hk
  have hcell := hT.2 _ (by rw [show Lib.deBruijn64tab.length = 64 from rfl]; exact hi)
  rw [htab] at hcell
  exact tz_core x _ _ w (by simp; omega) hkey hi hk hcell
theorem pmust_yes (e : Int) (w : World) : Calls Tryz.prog 269 #[.bool true, .int .i64 e] w fun e w' => e = .returned (.tuple #[]) ∧ w = w' := by
  go_enter Tryz.func269, Tryz.ntmps269
  go_wp2
  go_end0
  exact ⟨rfl, rfl⟩
theorem pwide_yes (n : Int) (h : 3 ≤ n) (h' : n ≤ 65) (w : World) : Calls Tryz.prog 268 #[.int .i64 n] w fun e w' => e = .returned (.tuple #[]) ∧ w = w' := by
  go_enter Tryz.func268, Tryz.ntmps268
  go_wp2_with fail
  refine (pmust_yes _ _).mono ?_
  rintro e w1 ⟨rfl, rfl⟩
  go_wp2
  go_end0
  exact ⟨rfl, rfl⟩
set_option maxHeartbeats 1000000 in
theorem podd_any (m : Nat) (e : Int) (h0 : 0 < m) (hm : m < 18446744073709551616) (he : -100000 ≤ e ∧ e ≤ 100000) (w : World) (hT : TabD w) :
    Calls Tryz.prog 267 #[.int .u64 m, .int .i64 e] w fun x w' => x = .returned (.tuple #[.int .u64 ((oddP 64 m e).1 : Nat), .int .i64 (oddP 64 m e).2]) ∧ w = w' := by
  have hk := tzN_lt 64 m h0 (by omega)
  have hv : oddP 64 m e = (m / 2 ^ tzN 64 m, e + tzN 64 m) := by unfold oddP; rw [if_neg (by omega)]
  obtain ⟨k, hk'⟩ : ∃ k, tzN 64 m = k := ⟨_, rfl⟩
  rw [hv]
  rw [hk'] at hk ⊢
  go_enter Tryz.func267, Tryz.ntmps267
  go_wp2_with fail
  refine (tz_any m h0 hm w hT).mono ?_
  rintro x w1 ⟨rfl, rfl⟩
  rw [hk']
  go_wp2
  go_ret2
  exact ⟨rfl, rfl⟩
theorem mask_and (key L : Nat) (hk : key < 18446744073709551616) (hL : L ≤ 64) : bits BinOp.and IntKind.u64 (key : Int) (IntKind.u64.wrap (IntKind.u64.wrap (2 ^ L) - 1)) = ((key % 2 ^ L : Nat) : Int) := by
  have hm := mask_pure (L : Int) (by omega) (by omega)
  rw [Int.toNat_natCast] at hm
  have h1 := Nat.one_le_two_pow (n := L)
  have h2 : 2 ^ L ≤ 2 ^ 64 := Nat.pow_le_pow_right (by decide) hL
  have e1 : (2 : Int) ^ L - 1 = ((2 ^ L - 1 : Nat) : Int) := by push_cast [h1]; rfl
  rw [hm, e1, bits_and_u64_nat _ _ hk (by omega), Nat.and_two_pow_sub_one_eq_mod]
theorem exp_pure (L rest : Nat) (h : rest < 2 ^ L) : wrap64 (IntKind.u64.wrap (((rest : Nat) : Int) / 2 ^ (L - 2) * 2 ^ (2 - L))) = ((poE L rest : Nat) : Int) := by
  have h1 := poE_lt h
  have e1 : ((rest : Nat) : Int) / 2 ^ (L - 2) * 2 ^ (2 - L) = ((poE L rest : Nat) : Int) := by unfold poE; push_cast; rfl
  rw [e1, wrap_u64]
  unfold wrap64
  omega
set_option maxHeartbeats 1000000 in
theorem psplit_low (n key : Nat) (hn : 2 ≤ n) (hn' : n ≤ 64) (h0 : 0 < key) (hk : key < 2 ^ (n - 1)) (w : World) :
    Calls Tryz.prog 266 #[.int .i64 (n + 1), .int .u64 key] w fun e w' => e = .returned (.agg #[.int .i64 (poR n key), .int .i64 (poE (poL n key) (key % 2 ^ poL n key) : Nat), .int .u64 (key % 2 ^ poL n key % 2 ^ (poL n key - 2) : Nat), .int .i64 (poL n key - 2 : Nat)]) ∧ Below w.heap.size w w' := by
  have hm : ((key : Int) != 0 && (key : Int) / 2 ^ (n - 1) / 2 == 0) = true := by
    have e1 : (key : Int) / 2 ^ (n - 1) = ((key / 2 ^ (n - 1) : Nat) : Int) := by push_cast; rfl
    rw [e1, Nat.div_eq_of_lt hk]
    simp; omega
  have hkn : key < 2 ^ n := Nat.lt_of_lt_of_le hk (Nat.pow_le_pow_right (by decide) (by omega))
  have hhi : key * 2 ^ (64 - n) < 18446744073709551616 := by
    have h1 := Nat.mul_lt_mul_of_pos_right hkn (Nat.two_pow_pos (64 - n))
    rw [← Nat.pow_add, show n + (64 - n) = 64 by omega] at h1
    exact h1
  have hwr : IntKind.u64.wrap ((key : Int) * 2 ^ (64 - n)) = ((key * 2 ^ (64 - n) : Nat) : Int) := by
    have e1 : (key : Int) * 2 ^ (64 - n) = ((key * 2 ^ (64 - n) : Nat) : Int) := by push_cast; rfl
    rw [e1, wrap_u64]
    omega
  obtain ⟨h, hh⟩ : ∃ h, key * 2 ^ (64 - n) = h := ⟨_, rfl⟩
  have hlz := Lib.hid fun w => lz_bl _ hhi w
  rw [hh] at hwr hlz
  have hrun := run_low hn' h0 hkn
  rw [hh] at hrun
  obtain ⟨hr1, hr2, hr3, hr4⟩ := split_low h0 hk hn
  rw [← hrun] at hr1 hr2 hr3 hr4
  obtain ⟨run, hru⟩ : ∃ r, 64 - bl h = r := ⟨_, rfl⟩
  rw [hru] at hr1 hr2 hr3 hr4 hlz
  clear hhi hrun hru hh
  obtain ⟨L, hL⟩ : ∃ L, poL n key = L := ⟨_, rfl⟩
  rw [hL] at hr3 ⊢
  rw [hr2]
  clear hr2 hL
  have hL64 : L ≤ 64 := by omega
  have hmx : max ((n : Int) - (run : Int) - 1) 0 = (L : Int) := by omega
  have hmx2 : max ((L : Int) - 2) 0 = ((L - 2 : Nat) : Int) := by omega
  have hmx3 : max (2 - (L : Int)) 0 = ((2 - L : Nat) : Int) := by omega
  have hkb : key < 18446744073709551616 := show key < 2 ^ 64 from Nat.lt_of_lt_of_le hkn (Nat.pow_le_pow_right (by decide) hn')
  have hma := Lib.hid (mask_and key L hkb hL64)
  have hma2 := Lib.hid (mask_and (key % 2 ^ L) (L - 2) (Nat.lt_of_le_of_lt (Nat.mod_le _ _) hkb) (by omega))
  have hpe := Lib.hid (exp_pure L (key % 2 ^ L) (Nat.mod_lt _ (Nat.two_pow_pos _)))
  replace hmx := Lib.hid hmx
  replace hmx2 := Lib.hid hmx2
  replace hmx3 := Lib.hid hmx3
  clear hkb hL64 hr3
  go_enter Tryz.func266, Tryz.ntmps266
  go_wp2_with fail
  refine (pwide_yes _ (by omega) (by omega) _).mono ?_
  rintro e w1 ⟨rfl, rfl⟩
  go_wp2_with fail
  refine (pmust_yes _ _).mono ?_
  rintro e w1 ⟨rfl, rfl⟩
  clear hm
  go_wp2_with fail
  refine (hlz.out _).mono ?_
  rintro e w1 ⟨rfl, rfl⟩
  go_wp2_with fail
  rw [hmx.out, hmx2.out, hmx3.out]
  simp only [Int.toNat_natCast]
  rw [hma.out, hma2.out, hpe.out]
  refine bodyPost_ret (v := .agg #[.int .i64 (-(run : Int)), .int .i64 (poE L (key % 2 ^ L) : Nat), .int .u64 (key % 2 ^ L % 2 ^ (L - 2) : Nat), .int .i64 (L - 2 : Nat)]) (by simp [results, Tryz.results266, go_sem]) rfl ⟨rfl, ?_⟩
  exact (Below.refl _ _).alloc (Nat.le_refl _) _
theorem not_nat (x : Nat) (hx : x < 18446744073709551616) : 18446744073709551615 ^^^ x = 18446744073709551615 - x := by
  have h := congrArg BitVec.toNat (BitVec.allOnes_xor (x := BitVec.ofNat 64 x))
  rw [BitVec.toNat_xor, BitVec.toNat_not, BitVec.toNat_allOnes, BitVec.toNat_ofNat, Nat.mod_eq_of_lt (show x < 2 ^ 64 from hx)] at h
  exact h
theorem not_pure (x : Nat) (hx : x < 18446744073709551616) : bits BinOp.xor IntKind.u64 IntKind.u64.max (x : Int) = ((18446744073709551615 - x : Nat) : Int) := by
  have e : (IntKind.u64.max : Int) = ((18446744073709551615 : Nat) : Int) := by decide
  rw [e, bits_xor_u64_nat _ _ (by decide) hx, not_nat x hx]
set_option maxHeartbeats 1000000 in
theorem psplit_high (n key : Nat) (hn : 2 ≤ n) (hn' : n ≤ 64) (hg : 2 ^ (n - 1) ≤ key) (hkn : key < 2 ^ n) (w : World) :
    Calls Tryz.prog 266 #[.int .i64 (n + 1), .int .u64 key] w fun e w' => e = .returned (.agg #[.int .i64 (poR n key), .int .i64 (poE (poL n key) (key % 2 ^ poL n key) : Nat), .int .u64 (key % 2 ^ poL n key % 2 ^ (poL n key - 2) : Nat), .int .i64 (poL n key - 2 : Nat)]) ∧ Below w.heap.size w w' := by
  have h0 : 0 < key := Nat.lt_of_lt_of_le (Nat.two_pow_pos _) hg
  have hm : ((key : Int) != 0 && (key : Int) / 2 ^ (n - 1) / 2 == 0) = true := by
    have e1 : (key : Int) / 2 ^ (n - 1) / 2 = ((key / 2 ^ (n - 1) / 2 : Nat) : Int) := by push_cast; rfl
    have e2 : key / 2 ^ (n - 1) / 2 = 0 := by
      rw [Nat.div_div_eq_div_mul, ← Nat.pow_succ, Nat.succ_eq_add_one, show n - 1 + 1 = n by omega]
      exact Nat.div_eq_of_lt hkn
    rw [e1, e2]
    simp; omega
  have hhi : key * 2 ^ (64 - n) < 18446744073709551616 := by
    have h1 := Nat.mul_lt_mul_of_pos_right hkn (Nat.two_pow_pos (64 - n))
    rw [← Nat.pow_add, show n + (64 - n) = 64 by omega] at h1
    exact h1
  have hwr : IntKind.u64.wrap ((key : Int) * 2 ^ (64 - n)) = ((key * 2 ^ (64 - n) : Nat) : Int) := by
    have e1 : (key : Int) * 2 ^ (64 - n) = ((key * 2 ^ (64 - n) : Nat) : Int) := by push_cast; rfl
    rw [e1, wrap_u64]
    omega
  have hrun0 := run_low hn' h0 hkn
  have hrun := run_high hn' hkn
  obtain ⟨hx, hh⟩ : ∃ hx, key * 2 ^ (64 - n) = hx := ⟨_, rfl⟩
  rw [hh] at hwr hhi hrun0 hrun
  have hlz0 := Lib.hid fun w => lz_bl _ hhi w
  have hlz1 := Lib.hid fun w => lz_bl (18446744073709551615 - hx) (by omega) w
  obtain ⟨hr0, hr1, hr2, hr3, hr4⟩ := split_high hkn hg hn
  rw [← hrun0] at hr0
  rw [← hrun] at hr1 hr2 hr3 hr4
  rw [show 2 ^ 64 - 1 - hx = 18446744073709551615 - hx from rfl] at hr1 hr2 hr3 hr4
  rw [hr0] at hlz0
  obtain ⟨run, hru⟩ : ∃ r, 64 - bl (18446744073709551615 - hx) = r := ⟨_, rfl⟩
  rw [hru] at hr1 hr2 hr3 hr4 hlz1
  have hnp := not_pure hx hhi
  obtain ⟨y, hy⟩ : ∃ y, 18446744073709551615 - hx = y := ⟨_, rfl⟩
  rw [hy] at hnp hlz1
  replace hnp := Lib.hid hnp
  clear hhi hrun hru hh hrun0 hr0 hy
  obtain ⟨L, hL⟩ : ∃ L, poL n key = L := ⟨_, rfl⟩
  rw [hL] at hr3 ⊢
  rw [hr2]
  clear hr2 hL
  have hL64 : L ≤ 64 := by omega
  have hmx : max ((n : Int) - (run : Int) - 1) 0 = (L : Int) := by omega
  have hmx2 : max ((L : Int) - 2) 0 = ((L - 2 : Nat) : Int) := by omega
  have hmx3 : max (2 - (L : Int)) 0 = ((2 - L : Nat) : Int) := by omega
  have hkb : key < 18446744073709551616 := show key < 2 ^ 64 from Nat.lt_of_lt_of_le hkn (Nat.pow_le_pow_right (by decide) hn')
  have hma := Lib.hid (mask_and key L hkb hL64)
  have hma2 := Lib.hid (mask_and (key % 2 ^ L) (L - 2) (Nat.lt_of_le_of_lt (Nat.mod_le _ _) hkb) (by omega))
  have hpe := Lib.hid (exp_pure L (key % 2 ^ L) (Nat.mod_lt _ (Nat.two_pow_pos _)))
  have hmn : min (run : Int) (n : Int) = (run : Int) := by omega
  replace hmx := Lib.hid hmx
  replace hmx2 := Lib.hid hmx2
  replace hmx3 := Lib.hid hmx3
  replace hg := Lib.hid hg
  clear hkb hL64 hr3
  go_enter Tryz.func266, Tryz.ntmps266
  go_wp2_with fail
  refine (pwide_yes _ (by omega) (by omega) _).mono ?_
  rintro e w1 ⟨rfl, rfl⟩
  go_wp2_with fail
  refine (pmust_yes _ _).mono ?_
  rintro e w1 ⟨rfl, rfl⟩
  clear hm
  go_wp2_with fail
  refine (hlz0.out _).mono ?_
  rintro e w1 ⟨rfl, rfl⟩
  go_wp2_with fail
  rw [hnp.out]
  refine (hlz1.out _).mono ?_
  rintro e w1 ⟨rfl, rfl⟩
  go_wp2_with fail
  rw [hmx.out, hmx2.out, hmx3.out]
  simp only [Int.toNat_natCast]
  rw [hma.out, hma2.out, hpe.out]
  refine bodyPost_ret (v := .agg #[.int .i64 ((run : Int) - 1), .int .i64 (poE L (key % 2 ^ L) : Nat), .int .u64 (key % 2 ^ L % 2 ^ (L - 2) : Nat), .int .i64 (L - 2 : Nat)]) (by simp [results, Tryz.results266, go_sem]) rfl ⟨rfl, ?_⟩
  exact (Below.refl _ _).alloc (Nat.le_refl _) _
theorem psplit_any (n key : Nat) (hn : 2 ≤ n) (hn' : n ≤ 64) (h0 : 0 < key) (hkn : key < 2 ^ n) (w : World) :
    Calls Tryz.prog 266 #[.int .i64 (n + 1), .int .u64 key] w fun e w' => e = .returned (.agg #[.int .i64 (poR n key), .int .i64 (poE (poL n key) (key % 2 ^ poL n key) : Nat), .int .u64 (key % 2 ^ poL n key % 2 ^ (poL n key - 2) : Nat), .int .i64 (poL n key - 2 : Nat)]) ∧ Below w.heap.size w w' := by
  by_cases h : key < 2 ^ (n - 1)
  · exact psplit_low n key hn hn' h0 h w
  · exact psplit_high n key hn hn' (by omega) hkn w
end Go.Proofs.YtncfbleeidjflaaGreatDoor
namespace Go.Proofs.YtncfbleeidjflaaGreatDoor
open Go.RowKit Go.Cal
theorem below_of_same {P : Program} {f : FuncId} {args : Array Value} {w : World} {v : Value}
    (h : Calls P f args w fun e w' => e = .returned v ∧ w = w') : Calls P f args w fun e w' => e = .returned v ∧ Below w.heap.size w w' :=
  h.mono fun _ _ ⟨he, hm⟩ => ⟨he, hm ▸ Below.refl _ _⟩
theorem or_pure (B r : Nat) (hB : B ≤ 62) (hr : r < 2 ^ B) : bits BinOp.or IntKind.u64 (IntKind.u64.wrap (2 ^ B)) (r : Int) = ((2 ^ B + r : Nat) : Int) := by
  have h2 : 2 ^ B ≤ 2 ^ 62 := Nat.pow_le_pow_right (by decide) hB
  have e1 : IntKind.u64.wrap ((2 : Int) ^ B) = ((2 ^ B : Nat) : Int) := by
    have e2 : (2 : Int) ^ B = ((2 ^ B : Nat) : Int) := by push_cast; rfl
    rw [e2, wrap_u64]; omega
  rw [e1, bits_or_u64_nat _ _ (by omega) (by omega)]
  congr 1
  have := Nat.two_pow_add_eq_or_of_lt hr 1
  rw [Nat.mul_one] at this
  exact this.symm
set_option maxRecDepth 100000 in
set_option maxHeartbeats 1000000 in
theorem pval_any (n key : Nat) (hn : 2 ≤ n) (hn' : n ≤ 64) (h0 : 0 < key) (hkn : key < 2 ^ n) (w : World) (hT : TabD w) :
    Calls Tryz.prog 263 #[.int .i64 (n + 1), .int .u64 key] w fun e w' => e = .returned (.tuple #[.int .u64 ((oddP 64 (poF (poL n key) (key % 2 ^ poL n key)) (4 * poR n key + poE (poL n key) (key % 2 ^ poL n key) - (poL n key - 2 : Nat))).1 : Nat), .int .i64 (oddP 64 (poF (poL n key) (key % 2 ^ poL n key)) (4 * poR n key + poE (poL n key) (key % 2 ^ poL n key) - (poL n key - 2 : Nat))).2]) ∧ Below w.heap.size w w' := by
  have hL := poL_le hkn
  have hR := poR_ge hkn
  have hE := poE_lt (Nat.mod_lt key (Nat.two_pow_pos (poL n key)))
  have hsp := Lib.hid (psplit_any n key hn hn' h0 hkn w)
  obtain ⟨hF1, hF2⟩ := poF_bnd (poL n key) (key % 2 ^ poL n key)
  have hF : poF (poL n key) (key % 2 ^ poL n key) = 2 ^ (poL n key - 2) + key % 2 ^ poL n key % 2 ^ (poL n key - 2) := rfl
  obtain ⟨B, hB⟩ : ∃ B, poL n key - 2 = B := ⟨_, rfl⟩
  rw [hB] at hsp hF1 hF2 hF ⊢
  obtain ⟨r, hr⟩ : ∃ r, key % 2 ^ poL n key % 2 ^ B = r := ⟨_, rfl⟩
  have hrB : r < 2 ^ B := by rw [← hr]; exact Nat.mod_lt _ (Nat.two_pow_pos _)
  rw [hr] at hsp hF
  obtain ⟨E, hE'⟩ : ∃ E, poE (poL n key) (key % 2 ^ poL n key) = E := ⟨_, rfl⟩
  rw [hE'] at hsp hE ⊢
  obtain ⟨R, hR'⟩ : ∃ R, poR n key = R := ⟨_, rfl⟩
  rw [hR'] at hsp hR ⊢
  obtain ⟨m, hm⟩ : ∃ m, poF (poL n key) (key % 2 ^ poL n key) = m := ⟨_, rfl⟩
  rw [hm] at hF hF1 hF2 ⊢
  have hB2 : 2 ^ B ≤ 2 ^ 62 := Nat.pow_le_pow_right (by decide) (by omega)
  have hor := or_pure B r (by omega) hrB
  rw [← hF] at hor
  have hod := fun w (hT : TabD w) => podd_any m (4 * R + E - B) (by have := Nat.two_pow_pos B; omega) (by omega) (by omega) w hT
  obtain ⟨mv, ev, hmv⟩ : ∃ a b, oddP 64 m (4 * R + E - B) = (a, b) := ⟨_, _, rfl⟩
  rw [hmv] at hod ⊢
  have hw4 : wrap64 (R * 4 + (E : Int) - (B : Int)) = 4 * R + E - B := by
    unfold wrap64
    omega
  have hmB : min B 64 = B := by omega
  have hor2 : bits BinOp.or IntKind.u64 (IntKind.u64.wrap (2 ^ min B 64)) (r : Int) = (m : Int) := by rw [hmB]; exact hor
  replace hw4 := Lib.hid hw4
  replace hor2 := Lib.hid hor2
  replace hod := Lib.hid hod
  clear hmB hor hF hF1 hF2 hB2 hr hm hE' hR' hmv
  replace hB := Lib.hid hB
  go_enter Tryz.func263, Tryz.ntmps263
  go_wp2_with fail
  refine hsp.out.mono ?_
  rintro e w1 ⟨rfl, hb⟩
  go_wp2_with fail
  have hTW := hT.below (hb.alloc hb.size (.cells #[.int .i64 R, .int .i64 E, .int .u64 r, .int .i64 B] 299))
  have c0 := fun (u : Later (w1.heap.size + 1) (w1.alloc (.cells #[.int .i64 R, .int .i64 E, .int .u64 r, .int .i64 B] 299))) => u.cell w1.heap.size 0 (.int .i64 R) (by omega) (by simp)
  have c1 := fun (u : Later (w1.heap.size + 1) (w1.alloc (.cells #[.int .i64 R, .int .i64 E, .int .u64 r, .int .i64 B] 299))) => u.cell w1.heap.size 1 (.int .i64 E) (by omega) (by simp)
  have c2 := fun (u : Later (w1.heap.size + 1) (w1.alloc (.cells #[.int .i64 R, .int .i64 E, .int .u64 r, .int .i64 B] 299))) => u.cell w1.heap.size 2 (.int .u64 r) (by omega) (by simp)
  have c3 := fun (u : Later (w1.heap.size + 1) (w1.alloc (.cells #[.int .i64 R, .int .i64 E, .int .u64 r, .int .i64 B] 299))) => u.cell w1.heap.size 3 (.int .i64 B) (by omega) (by simp)
  have hob := fun (u : Later (w1.heap.size + 1) (w1.alloc (.cells #[.int .i64 R, .int .i64 E, .int .u64 r, .int .i64 B] 299))) => below_of_same (hod.out u.val (hTW.below (u.prop.mono (by simp))))
  replace hob := Lib.hid hob
  clear hod
  refine wp_region_later (B := w1.heap.size + 1) (by kernel_rfl) (by kernel_rfl) (Below.refl _ _) ?_
  repeat (go_big_quiet_step ((go_at_call 267; rw [hor2.out, hw4.out]; exact Calls.later_of (by simp) (hob.out _))))
  refine wpQuiet_nil ?_
  intro w2 hb2
  go_wp2
  go_ret2
  exact ⟨rfl, (hb.alloc hb.size _).trans (hb2.mono (by have := hb.size; omega))⟩
end Go.Proofs.YtncfbleeidjflaaGreatDoor
namespace Go.Proofs.YtncfbleeidjflaaGreatDoor
open Go.RowKit Go.Cal
theorem mfits_yes (man bias : Int) (h0 : 0 ≤ man) (h1 : man ≤ 60) (h2 : -2000 ≤ bias) (h3 : bias ≤ 2000) (w : World) : Calls Tryz.prog 265 #[.int .i64 man, .int .i64 bias] w fun e w' => e = .returned (.bool true) ∧ w = w' := by
  go_enter Tryz.func265, Tryz.ntmps265
  go_wp2
  go_ret
  exact ⟨rfl, rfl⟩
set_option maxHeartbeats 1000000 in
theorem msplit_yes (man key : Nat) (h1 : man ≤ 60) (hk : key < 18446744073709551616) (h2 : key / 2 ^ man ≤ 4095) (w : World) :
    Calls Tryz.prog 264 #[.int .i64 man, .int .u64 key] w fun e w' => e = .returned (.tuple #[.int .u64 ((key / 2 ^ man : Nat) : Int), .int .u64 ((key % 2 ^ man : Nat) : Int), .int .i64 0]) ∧ Below w.heap.size w w' := by
  have hma := Lib.hid (mask_and key man hk (by omega))
  have hdv := Lib.hid (show (key : Int) / 2 ^ man = ((key / 2 ^ man : Nat) : Int) by push_cast; rfl)
  have hle : (key : Int) / 2 ^ man ≤ 4095 := by rw [hdv.out]; omega
  have hnl : decide (4095 < (key : Int) / 2 ^ man) = false := by rw [decide_eq_false_iff_not]; omega
  go_enter Tryz.func264, Tryz.ntmps264
  go_wp2_with fail
  refine (mfits_yes _ _ (by omega) (by omega) (by omega) (by omega) _).mono ?_
  rintro e w1 ⟨rfl, rfl⟩
  go_wp2
  go_quiet (fail)
  go_wp2
  rw [hma.out, hdv.out]
  go_ret3
  exact ⟨rfl, rfl, rfl, rfl, Nat.le_refl _, fun _ _ => rfl⟩
theorem wrap_pow (B : Nat) (hB : B ≤ 62) : IntKind.u64.wrap ((2 : Int) ^ B) = ((2 ^ B : Nat) : Int) := by
  have h2 : 2 ^ B ≤ 2 ^ 62 := Nat.pow_le_pow_right (by decide) hB
  have e2 : (2 : Int) ^ B = ((2 ^ B : Nat) : Int) := by push_cast; rfl
  rw [e2, wrap_u64]
  generalize 2 ^ B = x at h2 ⊢
  omega
theorem or_pure2 (B r : Nat) (hB : B ≤ 62) (hr : r < 2 ^ B) : bits BinOp.or IntKind.u64 (r : Int) (IntKind.u64.wrap (2 ^ B)) = ((2 ^ B + r : Nat) : Int) := by
  have h2 : 2 ^ B ≤ 2 ^ 62 := Nat.pow_le_pow_right (by decide) hB
  rw [wrap_pow B hB, bits_or_u64_nat _ _ (by omega) (by omega), Nat.or_comm]
  congr 1
  have := Nat.two_pow_add_eq_or_of_lt hr 1
  rw [Nat.mul_one] at this
  exact this.symm
set_option maxHeartbeats 1000000 in
theorem mvalue_any (man bias key : Nat) (h1 : man ≤ 60) (hb : bias ≤ 2000) (hk : key < 18446744073709551616) (h2 : key / 2 ^ man ≤ 4095) (w : World) (hT : TabD w) :
    Calls Tryz.prog 258 #[.int .i64 man, .int .i64 bias, .int .u64 key] w fun e w' => e = .returned (.tuple #[.int .u64 ((oddP 64 (miM man key) ((miE man key : Int) - bias - man)).1 : Nat), .int .i64 (oddP 64 (miM man key) ((miE man key : Int) - bias - man)).2, .int .i64 0]) ∧ Below w.heap.size w w' := by
  have hsp := Lib.hid fun w => msplit_yes man key h1 hk h2 w
  by_cases h0 : key = 0
  · subst h0
    have hz : oddP 64 (miM man 0) ((miE man 0 : Int) - bias - man) = (0, 0) := by unfold oddP; rw [if_pos (miM_zero man)]
    rw [hz]
    go_enter Tryz.func258, Tryz.ntmps258
    go_wp2_with fail
    refine (hsp.out _).mono ?_
    rintro e w1 ⟨rfl, hb⟩
    go_wp2_with fail
    refine (mfits_yes _ _ (by omega) (by omega) (by omega) (by omega) _).mono ?_
    rintro e w1 ⟨rfl, rfl⟩
    go_wp2
    go_ret3
    exact ⟨rfl, hb⟩
  · have hmp := miM_pos (man := man) (Nat.pos_of_ne_zero h0)
    have hml := miM_lt man key
    have hm61 : 2 ^ (man + 1) ≤ 2 ^ 61 := Nat.pow_le_pow_right (by decide) (by omega)
    have hmb : miM man key < 18446744073709551616 := by omega
    have htz := Lib.hid fun w (hT : TabD w) => tz_any (miM man key) hmp hmb w hT
    have htl := tzN_lt 64 (miM man key) hmp (by omega)
    have hv : oddP 64 (miM man key) ((miE man key : Int) - bias - man) = (miM man key / 2 ^ tzN 64 (miM man key), (miE man key : Int) - bias - man + tzN 64 (miM man key)) := by unfold oddP; rw [if_neg (by omega)]
    have hE : miE man key = max (key / 2 ^ man) 1 := rfl
    have hM : miM man key = if key / 2 ^ man = 0 then key % 2 ^ man else 2 ^ man + key % 2 ^ man := rfl
    have hrl := Nat.mod_lt key (Nat.two_pow_pos man)
    have hor := or_pure2 man (key % 2 ^ man) (by omega) hrl
    rw [hv]
    clear hv
    obtain ⟨t, ht⟩ : ∃ t, tzN 64 (miM man key) = t := ⟨_, rfl⟩
    rw [ht] at htz htl ⊢
    obtain ⟨f, hf⟩ : ∃ f, key / 2 ^ man = f := ⟨_, rfl⟩
    obtain ⟨r, hr⟩ : ∃ r, key % 2 ^ man = r := ⟨_, rfl⟩
    rw [hf] at hE hM hsp h2
    rw [hr] at hM hsp hor
    rw [hE]
    obtain ⟨m, hm⟩ : ∃ m, miM man key = m := ⟨_, rfl⟩
    rw [hm] at hM htz ⊢
    clear hE ht hf hr hm hml hmp hmb hm61 hrl
    have hk0 : ((key : Int) == 0) = false := by simp; omega
    by_cases hf0 : f = 0
    · subst hf0
      rw [if_pos rfl] at hM
      subst hM
      clear hor
      go_enter Tryz.func258, Tryz.ntmps258
      go_wp2_with fail
      refine (hsp.out _).mono ?_
      rintro e w1 ⟨rfl, hb⟩
      go_wp2_with fail
      refine (mfits_yes _ _ (by omega) (by omega) (by omega) (by omega) _).mono ?_
      rintro e w1 ⟨rfl, rfl⟩
      go_wp2_with fail
      refine (htz.out _ (hT.below hb)).mono ?_
      rintro e w1 ⟨rfl, rfl⟩
      go_wp2
      go_ret3
      exact ⟨by push_cast; rfl, hb⟩
    · rw [if_neg hf0] at hM
      rw [← hM] at hor
      have hf1 : max (f : Int) 1 = (f : Int) := by omega
      have hf2 : (max f 1 : Nat) = f := by omega
      have hf3 : 0 < f := by omega
      rw [hf2]
      clear hM hf2
      replace hor := Lib.hid hor
      go_enter Tryz.func258, Tryz.ntmps258
      go_wp2_with fail
      refine (hsp.out _).mono ?_
      rintro e w1 ⟨rfl, hb⟩
      go_wp2_with fail
      refine (mfits_yes _ _ (by omega) (by omega) (by omega) (by omega) _).mono ?_
      rintro e w1 ⟨rfl, rfl⟩
      go_wp2_with fail
      rw [hor.out]
      refine (htz.out _ (hT.below hb)).mono ?_
      rintro e w1 ⟨rfl, rfl⟩
      go_wp2
      go_ret3
      exact ⟨by push_cast; rfl, hb⟩
end Go.Proofs.YtncfbleeidjflaaGreatDoor
