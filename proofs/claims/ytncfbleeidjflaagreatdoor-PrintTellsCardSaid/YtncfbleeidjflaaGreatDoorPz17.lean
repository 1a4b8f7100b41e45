/- Posits: a magnitude's fields and number, walked. Condition: the library's table of noughts. -/
/- Posits: a magnitude's number, walked. Condition: the library's table of noughts. -/
/- The forms like the IEEE's: a magnitude's number, walked. Condition: the library's table of noughts. -/
import Derived.Test.YtncfbleeidjflaaGreatDoorPz13
import Derived.Test.YtncfbleeidjflaaGreatDoorPz02
import Derived.Test.YtncfbleeidjflaaGreatDoorPz08
import Derived.Test.YtncfbleeidjflaaGreatDoorPz12
import Derived.Shelf.Spec.TrailingZeros
import Derived.Laws.Bits64
namespace Go.Proofs.YtncfbleeidjflaaGreatDoor
open Go.RowKit Go.Cal
/-- The library's table of noughts stands in its variable. -/
def TabD (w : World) : Prop := 12 < w.heap.size ∧ Go.Proofs.TabAt 12 Lib.deBruijn64tab w
theorem TabD.below {w w' : World} (h : TabD w) (hb : Below w.heap.size w w') : TabD w' :=
  ⟨Nat.lt_of_lt_of_le h.1 hb.size, fun j hj => by rw [(bcell hb).1 _ _ h.1]; exact h.2 j hj⟩
theorem bitLen_bl (x : Nat) (h : x < 18446744073709551616) : Lib.bitLen x = bl x := by
  obtain ⟨h1, h2⟩ := bitLen_spec x x (Nat.le_refl _) (by omega)
  by_cases h0 : x = 0
  · subst h0; decide
  · obtain ⟨h3, h4⟩ := h2 h0
    have h5 := bl_iff.2 h1
    have h6 : ¬ bl x ≤ Lib.bitLen x - 1 := fun h7 => by have := bl_iff.1 h7; omega
    omega
theorem lz_bl (x : Nat) (hx : x < 18446744073709551616) (w : World) : Calls Tryz.prog 184 #[.int .u64 x] w fun e w' => e = .returned (.int .i64 ((64 - bl x : Nat) : Int)) ∧ w = w' := by
  refine (Tryz.bits_LeadingZeros64 x w (by omega) (by omega)).mono fun e w' ⟨h, h'⟩ => ⟨?_, h'.symm⟩
  rw [Int.toNat_natCast, bitLen_bl x hx] at h
  have h1 : bl x ≤ 64 := bl_iff.2 (by omega)
  rw [h]
  congr 2
  omega
theorem tz_core (x k idx : Nat) (w : World) (hx0 : ((x : Int) == 0) = false)
    (key : IntKind.u64.wrap (bits BinOp.and IntKind.u64 (x : Int) (IntKind.u64.wrap (-(x : Int))) * 285870213051353865) / 288230376151711744 = (idx : Int))
    (hi : idx < 64) (hk : k < 64) (hcell : w.cell? ⟨12, idx, none⟩ = some (.int .u8 k)) :
    Calls Tryz.prog 229 #[.int .u64 x] w fun e w' => e = .returned (.int .i64 k) ∧ w = w' := by
  go_enter Tryz.func229, Tryz.ntmps229
  go_wp2_with (simp only [key])
  go_ret
  exact ⟨rfl, rfl⟩
theorem tz_any (x : Nat) (h0 : 0 < x) (hx : x < 18446744073709551616) (w : World) (hT : TabD w) : Calls Tryz.prog 229 #[.int .u64 x] w fun e w' => e = .returned (.int .i64 (tzN 64 x : Nat)) ∧ w = w' := by
  obtain ⟨hlow, hk⟩ := Lib.lowest_bit 64 x (by omega) hx
  obtain ⟨hi, htab⟩ := Lib.deBruijn64_at _ hk
  have hc : Lib.ctz 64 x = tzN 64 x := ctz_tz h0
  have hkey := Go.Proofs.tz64_key x _ hx (by omega) hlow
  rw [hc] at hkey hi htab hk
  have hcell := hT.2 _ (by rw [show Lib.deBruijn64tab.length = 64 from rfl]; exact hi)
  rw [htab] at hcell
  exact tz_core x _ _ w (by simp; omega) hkey hi hk hcell
theorem pmust_yes (e : Int) (w : World) : Calls Tryz.prog 269 #[.bool true, .int .i64 e] w fun e w' => e = .returned (.tuple #[]) ∧ w = w' := by
  go_enter Tryz.func269, Tryz.ntmps269
  go_wp2
  go_end0
  exact ⟨rfl, rfl⟩
theorem pwide_yes (n : Int) (h : 3 ≤ n) (h' : n ≤ 65) (w : World) : Calls Tryz.prog 268 #[.int .i64 n] w fun e w' => e = .returned (.tuple #[]) ∧ w = w' := by
  go_enter Tryz.func268, Tryz.ntmps268
  go_wp2_with fail
  refine (pmust_yes _ _).mono ?_
  rintro e w1 ⟨rfl, rfl⟩
  go_wp2
  go_end0
  exact ⟨rfl, rfl⟩
set_option maxHeartbeats 1000000 in
theorem podd_any (m : Nat) (e : Int) (h0 : 0 < m) (hm : m < 18446744073709551616) (he : -100000 ≤ e ∧ e ≤ 100000) (w : World) (hT : TabD w) :
    Calls Tryz.prog 267 #[.int .u64 m, .int .i64 e] w fun x w' => x = .returned (.tuple #[.int .u64 ((oddP 64 m e).1 : Nat), .int .i64 (oddP 64 m e).2]) ∧ w = w' := by
  have hk := tzN_lt 64 m h0 (by omega)
  have hv : oddP 64 m e = (m / 2 ^ tzN 64 m, e + tzN 64 m) := by unfold oddP; rw [if_neg (by omega)]
  obtain ⟨k, hk'⟩ : ∃ k, tzN 64 m = k := ⟨_, rfl⟩
  rw [hv]
  rw [hk'] at hk ⊢
  go_enter Tryz.func267, Tryz.ntmps267
  go_wp2_with fail
  refine (tz_any m h0 hm w hT).mono ?_
  rintro x w1 ⟨rfl, rfl⟩
  rw [hk']
  go_wp2
  go_ret2
  exact ⟨rfl, rfl⟩
theorem mask_and (key L : Nat) (hk : key < 18446744073709551616) (hL : L ≤ 64) : bits BinOp.and IntKind.u64 (key : Int) (IntKind.u64.wrap (IntKind.u64.wrap (2 ^ L) - 1)) = ((key % 2 ^ L : Nat) : Int) := by
  have hm := mask_pure (L : Int) (by omega) (by omega)
  rw [Int.toNat_natCast] at hm
  have h1 := Nat.one_le_two_pow (n := L)
  have h2 : 2 ^ L ≤ 2 ^ 64 := Nat.pow_le_pow_right (by decide) hL
  have e1 : (2 : Int) ^ L - 1 = ((2 ^ L - 1 : Nat) : Int) := by push_cast [h1]; rfl
  rw [hm, e1, bits_and_u64_nat _ _ hk (by omega), Nat.and_two_pow_sub_one_eq_mod]
theorem exp_pure (L rest : Nat) (h : rest < 2 ^ L) : wrap64 (IntKind.u64.wrap (((rest : Nat) : Int) / 2 ^ (L - 2) * 2 ^ (2 - L))) = ((poE L rest : Nat) : Int) := by
  have h1 := poE_lt h
  have e1 : ((rest : Nat) : Int) / 2 ^ (L - 2) * 2 ^ (2 - L) = ((poE L rest : Nat) : Int) := by unfold poE; push_cast; rfl
  rw [e1, wrap_u64]
  unfold wrap64
  omega
set_option maxHeartbeats 1000000 in
theorem psplit_low (n key : Nat) (hn : 2 ≤ n) (hn' : n ≤ 64) (h0 : 0 < key) (hk : key < 2 ^ (n - 1)) (w : World) :
    Calls Tryz.prog 266 #[.int .i64 (n + 1), .int .u64 key] w fun e w' => e = .returned (.agg #[.int .i64 (poR n key), .int .i64 (poE (poL n key) (key % 2 ^ poL n key) : Nat), .int .u64 (key % 2 ^ poL n key % 2 ^ (poL n key - 2) : Nat), .int .i64 (poL n key - 2 : Nat)]) ∧ Below w.heap.size w w' := by
  have hm : ((key : Int) != 0 && (key : Int) / 2 ^ (n - 1) / 2 == 0) = true := by
    have e1 : (key : Int) / 2 ^ (n - 1) = ((key / 2 ^ (n - 1) : Nat) : Int) := by push_cast; rfl
    rw [e1, Nat.div_eq_of_lt hk]
    simp; omega
  have hkn : key < 2 ^ n := Nat.lt_of_lt_of_le hk (Nat.pow_le_pow_right (by decide) (by omega))
  have hhi : key * 2 ^ (64 - n) < 18446744073709551616 := by
    have h1 := Nat.mul_lt_mul_of_pos_right hkn (Nat.two_pow_pos (64 - n))
    rw [← Nat.pow_add, show n + (64 - n) = 64 by omega] at h1
    exact h1
  have hwr : IntKind.u64.wrap ((key : Int) * 2 ^ (64 - n)) = ((key * 2 ^ (64 - n) : Nat) : Int) := by
    have e1 : (key : Int) * 2 ^ (64 - n) = ((key * 2 ^ (64 - n) : Nat) : Int) := by push_cast; rfl
    rw [e1, wrap_u64]
    omega
  obtain ⟨h, hh⟩ : ∃ h, key * 2 ^ (64 - n) = h := ⟨_, rfl⟩
  have hlz := Lib.hid fun w => lz_bl _ hhi w
  rw [hh] at hwr hlz
  have hrun := run_low hn' h0 hkn
  rw [hh] at hrun
  obtain ⟨hr1, hr2, hr3, hr4⟩ := split_low h0 hk hn
  rw [← hrun] at hr1 hr2 hr3 hr4
  obtain ⟨run, hru⟩ : ∃ r, 64 - bl h = r := ⟨_, rfl⟩
  rw [hru] at hr1 hr2 hr3 hr4 hlz
  clear hhi hrun hru hh
  obtain ⟨L, hL⟩ : ∃ L, poL n key = L := ⟨_, rfl⟩
  rw [hL] at hr3 ⊢
  rw [hr2]
  clear hr2 hL
  have hL64 : L ≤ 64 := by omega
  have hmx : max ((n : Int) - (run : Int) - 1) 0 = (L : Int) := by omega
  have hmx2 : max ((L : Int) - 2) 0 = ((L - 2 : Nat) : Int) := by omega
  have hmx3 : max (2 - (L : Int)) 0 = ((2 - L : Nat) : Int) := by omega
  have hkb : key < 18446744073709551616 := show key < 2 ^ 64 from Nat.lt_of_lt_of_le hkn (Nat.pow_le_pow_right (by decide) hn')
  have hma := Lib.hid (mask_and key L hkb hL64)
  have hma2 := Lib.hid (mask_and (key % 2 ^ L) (L - 2) (Nat.lt_of_le_of_lt (Nat.mod_le _ _) hkb) (by omega))
  have hpe := Lib.hid (exp_pure L (key % 2 ^ L) (Nat.mod_lt _ (Nat.two_pow_pos _)))
  replace hmx := Lib.hid hmx
  replace hmx2 := Lib.hid hmx2
  replace hmx3 := Lib.hid hmx3
  clear hkb hL64 hr3
  go_enter Tryz.func266, Tryz.ntmps266
  go_wp2_with fail
  refine (pwide_yes _ (by omega) (by omega) _).mono ?_
  rintro e w1 ⟨rfl, rfl⟩
  go_wp2_with fail
  refine (pmust_yes _ _).mono ?_
  rintro e w1 ⟨rfl, rfl⟩
  clear hm
  go_wp2_with fail
  refine (hlz.out _).mono ?_
  rintro e w1 ⟨rfl, rfl⟩
  go_wp2_with fail
  rw [hmx.out, hmx2.out, hmx3.out]
  simp only [Int.toNat_natCast]
  rw [hma.out, hma2.out, hpe.out]
  refine bodyPost_ret (v := .agg #[.int .i64 (-(run : Int)), .int .i64 (poE L (key % 2 ^ L) : Nat), .int .u64 (key % 2 ^ L % 2 ^ (L - 2) : Nat), .int .i64 (L - 2 : Nat)]) (by simp [results, Tryz.results266, go_sem]) rfl ⟨rfl, ?_⟩
  exact (Below.refl _ _).alloc (Nat.le_refl _) _
theorem not_nat (x : Nat) (hx : x < 18446744073709551616) : 18446744073709551615 ^^^ x = 18446744073709551615 - x := by
  have h := congrArg BitVec.toNat (BitVec.allOnes_xor (x := BitVec.ofNat 64 x))
  rw [BitVec.toNat_xor, BitVec.toNat_not, BitVec.toNat_allOnes, BitVec.toNat_ofNat, Nat.mod_eq_of_lt (show x < 2 ^ 64 from hx)] at h
  exact h
theorem not_pure (x : Nat) (hx : x < 18446744073709551616) : bits BinOp.xor IntKind.u64 IntKind.u64.max (x : Int) = ((18446744073709551615 - x : Nat) : Int) := by
  have e : (IntKind.u64.max : Int) = ((18446744073709551615 : Nat) : Int) := by decide
  rw [e, bits_xor_u64_nat _ _ (by decide) hx, not_nat x hx]
set_option maxHeartbeats 1000000 in
theorem psplit_high (n key : Nat) (hn : 2 ≤ n) (hn' : n ≤ 64) (hg : 2 ^ (n - 1) ≤ key) (hkn : key < 2 ^ n) (w : World) :
    Calls Tryz.prog 266 #[.int .i64 (n + 1), .int .u64 key] w fun e w' => e = .returned (.agg #[.int .i64 (poR n key), .int .i64 (poE (poL n key) (key % 2 ^ poL n key) : Nat), .int .u64 (key % 2 ^ poL n key % 2 ^ (poL n key - 2) : Nat), .int .i64 (poL n key - 2 : Nat)]) ∧ Below w.heap.size w w' := by
  have h0 : 0 < key := Nat.lt_of_lt_of_le (Nat.two_pow_pos _) hg
  have hm : ((key : Int) != 0 && (key : Int) / 2 ^ (n - 1) / 2 == 0) = true := by
    have e1 : (key : Int) / 2 ^ (n - 1) / 2 = ((key / 2 ^ (n - 1) / 2 : Nat) : Int) := by push_cast; rfl
    have e2 : key / 2 ^ (n - 1) / 2 = 0 := by
      rw [Nat.div_div_eq_div_mul, ← Nat.pow_succ, Nat.succ_eq_add_one, show n - 1 + 1 = n by omega]
      exact Nat.div_eq_of_lt hkn
    rw [e1, e2]
    simp; omega
  have hhi : key * 2 ^ (64 - n) < 18446744073709551616 := by
    have h1 := Nat.mul_lt_mul_of_pos_right hkn (Nat.two_pow_pos (64 - n))
    rw [← Nat.pow_add, show n + (64 - n) = 64 by omega] at h1
    exact h1
  have hwr : IntKind.u64.wrap ((key : Int) * 2 ^ (64 - n)) = ((key * 2 ^ (64 - n) : Nat) : Int) := by
    have e1 : (key : Int) * 2 ^ (64 - n) = ((key * 2 ^ (64 - n) : Nat) : Int) := by push_cast; rfl
    rw [e1, wrap_u64]
    omega
  have hrun0 := run_low hn' h0 hkn
  have hrun := run_high hn' hkn
  obtain ⟨hx, hh⟩ : ∃ hx, key * 2 ^ (64 - n) = hx := ⟨_, rfl⟩
  rw [hh] at hwr hhi hrun0 hrun
  have hlz0 := Lib.hid fun w => lz_bl _ hhi w
  have hlz1 := Lib.hid fun w => lz_bl (18446744073709551615 - hx) (by omega) w
  obtain ⟨hr0, hr1, hr2, hr3, hr4⟩ := split_high hkn hg hn
  rw [← hrun0] at hr0
  rw [← hrun] at hr1 hr2 hr3 hr4
  rw [show 2 ^ 64 - 1 - hx = 18446744073709551615 - hx from rfl] at hr1 hr2 hr3 hr4
  rw [hr0] at hlz0
  obtain ⟨run, hru⟩ : ∃ r, 64 - bl (18446744073709551615 - hx) = r := ⟨_, rfl⟩
  rw [hru] at hr1 hr2 hr3 hr4 hlz1
  have hnp := not_pure hx hhi
  obtain ⟨y, hy⟩ : ∃ y, 18446744073709551615 - hx = y := ⟨_, rfl⟩
  rw [hy] at hnp hlz1
  replace hnp := Lib.hid hnp
  clear hhi hrun hru hh hrun0 hr0 hy
  obtain ⟨L, hL⟩ : ∃ L, poL n key = L := ⟨_, rfl⟩
  rw [hL] at hr3 ⊢
  rw [hr2]
  clear hr2 hL
  have hL64 : L ≤ 64 := by omega
  have hmx : max ((n : Int) - (run : Int) - 1) 0 = (L : Int) := by omega
  have hmx2 : max ((L : Int) - 2) 0 = ((L - 2 : Nat) : Int) := by omega
  have hmx3 : max (2 - (L : Int)) 0 = ((2 - L : Nat) : Int) := by omega
  have hkb : key < 18446744073709551616 := show key < 2 ^ 64 from Nat.lt_of_lt_of_le hkn (Nat.pow_le_pow_right (by decide) hn')
  have hma := Lib.hid (mask_and key L hkb hL64)
  have hma2 := Lib.hid (mask_and (key % 2 ^ L) (L - 2) (Nat.lt_of_le_of_lt (Nat.mod_le _ _) hkb) (by omega))
  have hpe := Lib.hid (exp_pure L (key % 2 ^ L) (Nat.mod_lt _ (Nat.two_pow_pos _)))
  have hmn : min (run : Int) (n : Int) = (run : Int) := by omega
  replace hmx := Lib.hid hmx
  replace hmx2 := Lib.hid hmx2
  replace hmx3 := Lib.hid hmx3
  replace hg := Lib.hid hg
  clear hkb hL64 hr3
  go_enter Tryz.func266, Tryz.ntmps266
  go_wp2_with fail
  refine (pwide_yes _ (by omega) (by omega) _).mono ?_
  rintro e w1 ⟨rfl, rfl⟩
  go_wp2_with fail
  refine (pmust_yes _ _).mono ?_
  rintro e w1 ⟨rfl, rfl⟩
  clear hm
  go_wp2_with fail
  refine (hlz0.out _).mono ?_
  rintro e w1 ⟨rfl, rfl⟩
  go_wp2_with fail
  rw [hnp.out]
  refine (hlz1.out _).mono ?_
  rintro e w1 ⟨rfl, rfl⟩
  go_wp2_with fail
  rw [hmx.out, hmx2.out, hmx3.out]
  simp only [Int.toNat_natCast]
  rw [hma.out, hma2.out, hpe.out]
  refine bodyPost_ret (v := .agg #[.int .i64 ((run : Int) - 1), .int .i64 (poE L (key % 2 ^ L) : Nat), .int .u64 (key % 2 ^ L % 2 ^ (L - 2) : Nat), .int .i64 (L - 2 : Nat)]) (by simp [results, Tryz.results266, go_sem]) rfl ⟨rfl, ?_⟩
  exact (Below.refl _ _).alloc (Nat.le_refl _) _
theorem psplit_any (n key : Nat) (hn : 2 ≤ n) (hn' : n ≤ 64) (h0 : 0 < key) (hkn : key < 2 ^ n) (w : World) :
    Calls Tryz.prog 266 #[.int .i64 (n + 1), .int .u64 key] w fun e w' => e = .returned (.agg #[.int .i64 (poR n key), .int .i64 (poE (poL n key) (key % 2 ^ poL n key) : Nat), .int .u64 (key % 2 ^ poL n key % 2 ^ (poL n key - 2) : Nat), .int .i64 (poL n key - 2 : Nat)]) ∧ Below w.heap.size w w' := by
  by_cases h : key < 2 ^ (n - 1)
  · exact psplit_low n key hn hn' h0 h w
  · exact psplit_high n key hn hn' (by omega) hkn w
end Go.Proofs.YtncfbleeidjflaaGreatDoor
namespace Go.Proofs.YtncfbleeidjflaaGreatDoor
open Go.RowKit Go.Cal
theorem below_of_same {P : Program} {f : FuncId} {args : Array Value} {w : World} {v : Value}
    (h : Calls P f args w fun e w' => e = .returned v ∧ w = w') : Calls P f args w fun e w' => e = .returned v ∧ Below w.heap.size w w' :=
  h.mono fun _ _ ⟨he, hm⟩ => ⟨he, hm ▸ Below.refl _ _⟩
theorem or_pure (B r : Nat) (hB : B ≤ 62) (hr : r < 2 ^ B) : bits BinOp.or IntKind.u64 (IntKind.u64.wrap (2 ^ B)) (r : Int) = ((2 ^ B + r : Nat) : Int) := by
  have h2 : 2 ^ B ≤ 2 ^ 62 := Nat.pow_le_pow_right (by decide) hB
  have e1 : IntKind.u64.wrap ((2 : Int) ^ B) = ((2 ^ B : Nat) : Int) := by
    have e2 : (2 : Int) ^ B = ((2 ^ B : Nat) : Int) := by push_cast; rfl
    rw [e2, wrap_u64]; omega
  rw [e1, bits_or_u64_nat _ _ (by omega) (by omega)]
  congr 1
  have := Nat.two_pow_add_eq_or_of_lt hr 1
  rw [Nat.mul_one] at this
  exact this.symm
set_option maxRecDepth 100000 in
set_option maxHeartbeats 1000000 in
theorem pval_any (n key : Nat) (hn : 2 ≤ n) (hn' : n ≤ 64) (h0 : 0 < key) (hkn : key < 2 ^ n) (w : World) (hT : TabD w) :
    Calls Tryz.prog 263 #[.int .i64 (n + 1), .int .u64 key] w fun e w' => e = .returned (.tuple #[.int .u64 ((oddP 64 (poF (poL n key) (key % 2 ^ poL n key)) (4 * poR n key + poE (poL n key) (key % 2 ^ poL n key) - (poL n key - 2 : Nat))).1 : Nat), .int .i64 (oddP 64 (poF (poL n key) (key % 2 ^ poL n key)) (4 * poR n key + poE (poL n key) (key % 2 ^ poL n key) - (poL n key - 2 : Nat))).2]) ∧ Below w.heap.size w w' := by
  have hL := poL_le hkn
  have hR := poR_ge hkn
  have hE := poE_lt (Nat.mod_lt key (Nat.two_pow_pos (poL n key)))
  have hsp := Lib.hid (psplit_any n key hn hn' h0 hkn w)
  obtain ⟨hF1, hF2⟩ := poF_bnd (poL n key) (key % 2 ^ poL n key)
  have hF : poF (poL n key) (key % 2 ^ poL n key) = 2 ^ (poL n key - 2) + key % 2 ^ poL n key % 2 ^ (poL n key - 2) := rfl
  obtain ⟨B, hB⟩ : ∃ B, poL n key - 2 = B := ⟨_, rfl⟩
  rw [hB] at hsp hF1 hF2 hF ⊢
  obtain ⟨r, hr⟩ : ∃ r, key % 2 ^ poL n key % 2 ^ B = r := ⟨_, rfl⟩
  have hrB : r < 2 ^ B := by rw [← hr]; exact Nat.mod_lt _ (Nat.two_pow_pos _)
  rw [hr] at hsp hF
  obtain ⟨E, hE'⟩ : ∃ E, poE (poL n key) (key % 2 ^ poL n key) = E := ⟨_, rfl⟩
  rw [hE'] at hsp hE ⊢
  obtain ⟨R, hR'⟩ : ∃ R, poR n key = R := ⟨_, rfl⟩
  rw [hR'] at hsp hR ⊢
  obtain ⟨m, hm⟩ : ∃ m, poF (poL n key) (key % 2 ^ poL n key) = m := ⟨_, rfl⟩
  rw [hm] at hF hF1 hF2 ⊢
  have hB2 : 2 ^ B ≤ 2 ^ 62 := Nat.pow_le_pow_right (by decide) (by omega)
  have hor := or_pure B r (by omega) hrB
  rw [← hF] at hor
  have hod := fun w (hT : TabD w) => podd_any m (4 * R + E - B) (by have := Nat.two_pow_pos B; omega) (by omega) (by omega) w hT
  obtain ⟨mv, ev, hmv⟩ : ∃ a b, oddP 64 m (4 * R + E - B) = (a, b) := ⟨_, _, rfl⟩
  rw [hmv] at hod ⊢
  have hw4 : wrap64 (R * 4 + (E : Int) - (B : Int)) = 4 * R + E - B := by
    unfold wrap64
    omega
  have hmB : min B 64 = B := by omega
  have hor2 : bits BinOp.or IntKind.u64 (IntKind.u64.wrap (2 ^ min B 64)) (r : Int) = (m : Int) := by rw [hmB]; exact hor
  replace hw4 := Lib.hid hw4
  replace hor2 := Lib.hid hor2
  replace hod := Lib.hid hod
  clear hmB hor hF hF1 hF2 hB2 hr hm hE' hR' hmv
  replace hB := Lib.hid hB
  go_enter Tryz.func263, Tryz.ntmps263
  go_wp2_with fail
  refine hsp.out.mono ?_
  rintro e w1 ⟨rfl, hb⟩
  go_wp2_with fail
  have hTW := hT.below (hb.alloc hb.size (.cells #[.int .i64 R, .int .i64 E, .int .u64 r, .int .i64 B] 299))
  have c0 := fun (u : Later (w1.heap.size + 1) (w1.alloc (.cells #[.int .i64 R, .int .i64 E, .int .u64 r, .int .i64 B] 299))) => u.cell w1.heap.size 0 (.int .i64 R) (by omega) (by simp)
  have c1 := fun (u : Later (w1.heap.size + 1) (w1.alloc (.cells #[.int .i64 R, .int .i64 E, .int .u64 r, .int .i64 B] 299))) => u.cell w1.heap.size 1 (.int .i64 E) (by omega) (by simp)
  have c2 := fun (u : Later (w1.heap.size + 1) (w1.alloc (.cells #[.int .i64 R, .int .i64 E, .int .u64 r, .int .i64 B] 299))) => u.cell w1.heap.size 2 (.int .u64 r) (by omega) (by simp)
  have c3 := fun (u : Later (w1.heap.size + 1) (w1.alloc (.cells #[.int .i64 R, .int .i64 E, .int .u64 r, .int .i64 B] 299))) => u.cell w1.heap.size 3 (.int .i64 B) (by omega) (by simp)
  have hob := fun (u : Later (w1.heap.size + 1) (w1.alloc (.cells #[.int .i64 R, .int .i64 E, .int .u64 r, .int .i64 B] 299))) => below_of_same (hod.out u.val (hTW.below (u.prop.mono (by simp))))
  replace hob := Lib.hid hob
  clear hod
  refine wp_region_later (B := w1.heap.size + 1) (by kernel_rfl) (by kernel_rfl) (Below.refl _ _) ?_
  repeat (go_big_quiet_step ((go_at_call 267; rw [hor2.out, hw4.out]; exact Calls.later_of (by simp) (hob.out _))))
  refine wpQuiet_nil ?_
  intro w2 hb2
  go_wp2
  go_ret2
  exact ⟨rfl, (hb.alloc hb.size _).trans (hb2.mono (by have := hb.size; omega))⟩
end Go.Proofs.YtncfbleeidjflaaGreatDoor
namespace Go.Proofs.YtncfbleeidjflaaGreatDoor
open Go.RowKit Go.Cal
theorem mfits_yes (man bias : Int) (h0 : 0 ≤ man) (h1 : man ≤ 60) (h2 : -2000 ≤ bias) (h3 : bias ≤ 2000) (w : World) : Calls Tryz.prog 265 #[.int .i64 man, .int .i64 bias] w fun e w' => e = .returned (.bool true) ∧ w = w' := by
  go_enter Tryz.func265, Tryz.ntmps265
  go_wp2
  go_ret
  exact ⟨rfl, rfl⟩
set_option maxHeartbeats 1000000 in
theorem msplit_yes (man key : Nat) (h1 : man ≤ 60) (hk : key < 18446744073709551616) (h2 : key / 2 ^ man ≤ 4095) (w : World) :
    Calls Tryz.prog 264 #[.int .i64 man, .int .u64 key] w fun e w' => e = .returned (.tuple #[.int .u64 ((key / 2 ^ man : Nat) : Int), .int .u64 ((key % 2 ^ man : Nat) : Int), .int .i64 0]) ∧ Below w.heap.size w w' := by
  have hma := Lib.hid (mask_and key man hk (by omega))
  have hdv := Lib.hid (show (key : Int) / 2 ^ man = ((key / 2 ^ man : Nat) : Int) by push_cast; rfl)
  have hle : (key : Int) / 2 ^ man ≤ 4095 := by rw [hdv.out]; omega
  have hnl : decide (4095 < (key : Int) / 2 ^ man) = false := by rw [decide_eq_false_iff_not]; omega
  go_enter Tryz.func264, Tryz.ntmps264
  go_wp2_with fail
  refine (mfits_yes _ _ (by omega) (by omega) (by omega) (by omega) _).mono ?_
  rintro e w1 ⟨rfl, rfl⟩
  go_wp2
  go_quiet (fail)
  go_wp2
  rw [hma.out, hdv.out]
  go_ret3
  exact ⟨rfl, rfl, rfl, rfl, Nat.le_refl _, fun _ _ => rfl⟩
theorem wrap_pow (B : Nat) (hB : B ≤ 62) : IntKind.u64.wrap ((2 : Int) ^ B) = ((2 ^ B : Nat) : Int) := by
  have h2 : 2 ^ B ≤ 2 ^ 62 := Nat.pow_le_pow_right (by decide) hB
  have e2 : (2 : Int) ^ B = ((2 ^ B : Nat) : Int) := by push_cast; rfl
  rw [e2, wrap_u64]
  generalize 2 ^ B = x at h2 ⊢
  omega
theorem or_pure2 (B r : Nat) (hB : B ≤ 62) (hr : r < 2 ^ B) : bits BinOp.or IntKind.u64 (r : Int) (IntKind.u64.wrap (2 ^ B)) = ((2 ^ B + r : Nat) : Int) := by
  have h2 : 2 ^ B ≤ 2 ^ 62 := Nat.pow_le_pow_right (by decide) hB
  rw [wrap_pow B hB, bits_or_u64_nat _ _ (by omega) (by omega), Nat.or_comm]
  congr 1
  have := Nat.two_pow_add_eq_or_of_lt hr 1
  rw [Nat.mul_one] at this
  exact this.symm
set_option maxHeartbeats 1000000 in
theorem mvalue_any (man bias key : Nat) (h1 : man ≤ 60) (hb : bias ≤ 2000) (hk : key < 18446744073709551616) (h2 : key / 2 ^ man ≤ 4095) (w : World) (hT : TabD w) :
    Calls Tryz.prog 258 #[.int .i64 man, .int .i64 bias, .int .u64 key] w fun e w' => e = .returned (.tuple #[.int .u64 ((oddP 64 (miM man key) ((miE man key : Int) - bias - man)).1 : Nat), .int .i64 (oddP 64 (miM man key) ((miE man key : Int) - bias - man)).2, .int .i64 0]) ∧ Below w.heap.size w w' := by
  have hsp := Lib.hid fun w => msplit_yes man key h1 hk h2 w
  by_cases h0 : key = 0
  · subst h0
    have hz : oddP 64 (miM man 0) ((miE man 0 : Int) - bias - man) = (0, 0) := by unfold oddP; rw [if_pos (miM_zero man)]
    rw [hz]
    go_enter Tryz.func258, Tryz.ntmps258
    go_wp2_with fail
    refine (hsp.out _).mono ?_
    rintro e w1 ⟨rfl, hb⟩
    go_wp2_with fail
    refine (mfits_yes _ _ (by omega) (by omega) (by omega) (by omega) _).mono ?_
    rintro e w1 ⟨rfl, rfl⟩
    go_wp2
    go_ret3
    exact ⟨rfl, hb⟩
  · have hmp := miM_pos (man := man) (Nat.pos_of_ne_zero h0)
    have hml := miM_lt man key
    have hm61 : 2 ^ (man + 1) ≤ 2 ^ 61 := Nat.pow_le_pow_right (by decide) (by omega)
    have hmb : miM man key < 18446744073709551616 := by omega
    have htz := Lib.hid fun w (hT : TabD w) => tz_any (miM man key) hmp hmb w hT
    have htl := tzN_lt 64 (miM man key) hmp (by omega)
    have hv : oddP 64 (miM man key) ((miE man key : Int) - bias - man) = (miM man key / 2 ^ tzN 64 (miM man key), (miE man key : Int) - bias - man + tzN 64 (miM man key)) := by unfold oddP; rw [if_neg (by omega)]
    have hE : miE man key = max (key / 2 ^ man) 1 := rfl
    have hM : miM man key = if key / 2 ^ man = 0 then key % 2 ^ man else 2 ^ man + key % 2 ^ man := rfl
    have hrl := Nat.mod_lt key (Nat.two_pow_pos man)
    have hor := or_pure2 man (key % 2 ^ man) (by omega) hrl
    rw [hv]
    clear hv
    obtain ⟨t, ht⟩ : ∃ t, tzN 64 (miM man key) = t := ⟨_, rfl⟩
    rw [ht] at htz htl ⊢
    obtain ⟨f, hf⟩ : ∃ f, key / 2 ^ man = f := ⟨_, rfl⟩
    obtain ⟨r, hr⟩ : ∃ r, key % 2 ^ man = r := ⟨_, rfl⟩
    rw [hf] at hE hM hsp h2
    rw [hr] at hM hsp hor
    rw [hE]
    obtain ⟨m, hm⟩ : ∃ m, miM man key = m := ⟨_, rfl⟩
    rw [hm] at hM htz ⊢
    clear hE ht hf hr hm hml hmp hmb hm61 hrl
    have hk0 : ((key : Int) == 0) = false := by simp; omega
    by_cases hf0 : f = 0
    · subst hf0
      rw [if_pos rfl] at hM
      subst hM
      clear hor
      go_enter Tryz.func258, Tryz.ntmps258
      go_wp2_with fail
      refine (hsp.out _).mono ?_
      rintro e w1 ⟨rfl, hb⟩
      go_wp2_with fail
      refine (mfits_yes _ _ (by omega) (by omega) (by omega) (by omega) _).mono ?_
      rintro e w1 ⟨rfl, rfl⟩
      go_wp2_with fail
      refine (htz.out _ (hT.below hb)).mono ?_
      rintro e w1 ⟨rfl, rfl⟩
      go_wp2
      go_ret3
      exact ⟨by push_cast; rfl, hb⟩
    · rw [if_neg hf0] at hM
      rw [← hM] at hor
      have hf1 : max (f : Int) 1 = (f : Int) := by omega
      have hf2 : (max f 1 : Nat) = f := by omega
      have hf3 : 0 < f := by omega
      rw [hf2]
      clear hM hf2
      replace hor := Lib.hid hor
      go_enter Tryz.func258, Tryz.ntmps258
      go_wp2_with fail
      refine (hsp.out _).mono ?_
      rintro e w1 ⟨rfl, hb⟩
      go_wp2_with fail
      refine (mfits_yes _ _ (by omega) (by omega) (by omega) (by omega) _).mono ?_
      rintro e w1 ⟨rfl, rfl⟩
      go_wp2_with fail
      rw [hor.out]
      refine (htz.out _ (hT.below hb)).mono ?_
      rintro e w1 ⟨rfl, rfl⟩
      go_wp2
      go_ret3
      exact ⟨by push_cast; rfl, hb⟩
end Go.Proofs.YtncfbleeidjflaaGreatDoor
