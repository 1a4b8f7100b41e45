/- The forms layer: the table as plain functions; what each function of the layer, and of the document's answer, tells. Condition: the table of the forms stands in block 0. -/
import Derived.Test.YtmkhmmdomnhacaaDoorRows
import Derived.Test.YtmkhmmdomnhacaaDoorLib
namespace Go.Proofs.YtmkhmmdomnhacaaDoor
open Go.RowKit Go.Cal

/-- One row of the table, by its number. -/
def fK (id : Int) : Int := match id with | 1 => 1 | 2 => 1 | 3 => 1 | 4 => 1 | 10 => 3 | 11 => 4 | _ => 2
def fW (id : Int) : Int := match id with | 2 => 16 | 3 => 32 | 4 => 64 | 7 => 6 | 8 => 6 | 9 => 4 | 12 => 16 | 13 => 32 | 14 => 64 | _ => 8
def fM (id : Int) : Int := match id with | 5 => 3 | 6 => 2 | 7 => 2 | 8 => 3 | 9 => 1 | 10 => 6 | 12 => 10 | 13 => 23 | 14 => 52 | _ => 0
def fB (id : Int) : Int := match id with | 5 => 7 | 6 => 15 | 7 => 3 | 8 => 1 | 9 => 1 | 11 => 127 | 12 => 15 | 13 => 127 | 14 => 1023 | _ => 0
def fT (id : Int) : Int := match id with | 1 => 127 | 2 => 32767 | 3 => 2147483647 | 4 => 9223372036854775807 | 5 => 126 | 6 => 123 | 7 => 31 | 8 => 31 | 9 => 7 | 10 => 127 | 11 => 254 | 12 => 31743 | 13 => 2139095039 | _ => 9218868437227405311
def fI (id : Int) : Int := match id with | 6 => 124 | 12 => 31744 | 13 => 2139095040 | 14 => 9218868437227405312 | _ => 0
def fN (id : Int) : Int := match id with | 1 => 128 | 2 => 32768 | 3 => 2147483648 | 4 => 9223372036854775808 | 5 => 127 | 6 => 126 | 11 => 255 | 12 => 32256 | 13 => 2143289344 | 14 => 9221120237041090560 | _ => 0
theorem id_cases {id : Int} (h1 : 1 ≤ id) (h2 : id < 15) : id = 1 ∨ id = 2 ∨ id = 3 ∨ id = 4 ∨ id = 5 ∨ id = 6 ∨ id = 7 ∨ id = 8 ∨ id = 9 ∨ id = 10 ∨ id = 11 ∨ id = 12 ∨ id = 13 ∨ id = 14 := by omega

/-- The table stands in block 0 of the world. -/
def TabF (w : World) : Prop := 0 < w.heap.size ∧ ∀ id : Int, 1 ≤ id → id < 15 →
  w.cell? ⟨0, id.toNat * 7, none⟩ = some (.int .i64 (fK id)) ∧
  w.cell? ⟨0, id.toNat * 7 + 1, none⟩ = some (.int .i64 (fW id)) ∧
  w.cell? ⟨0, id.toNat * 7 + 2, none⟩ = some (.int .i64 (fM id)) ∧
  w.cell? ⟨0, id.toNat * 7 + 3, none⟩ = some (.int .i64 (fB id)) ∧
  w.cell? ⟨0, id.toNat * 7 + 4, none⟩ = some (.int .u64 (fT id)) ∧
  w.cell? ⟨0, id.toNat * 7 + 5, none⟩ = some (.int .u64 (fI id)) ∧
  w.cell? ⟨0, id.toNat * 7 + 6, none⟩ = some (.int .u64 (fN id))
theorem TabF.below {w w' : World} (h : TabF w) (hb : Below w.heap.size w w') : TabF w' := by
  have hc := (bcell hb).1
  refine ⟨Nat.lt_of_lt_of_le h.1 hb.size, fun id h1 h2 => ?_⟩
  have := h.2 id h1 h2
  simp only [hc _ _ h.1]
  exact this
theorem TabF.alloc {w : World} (h : TabF w) (o : Obj) : TabF (w.alloc o) := h.below ((Below.refl _ _).alloc (Nat.le_refl _) o)

theorem mask_pure (wi : Int) (h0 : 0 ≤ wi) (h1 : wi ≤ 64) : IntKind.u64.wrap (IntKind.u64.wrap (2 ^ wi.toNat) - 1) = 2 ^ wi.toNat - 1 := by
  rw [wrap_u64, wrap_u64]
  by_cases h : wi = 64
  · subst h; decide
  · have := pow_le63 wi.toNat (by omega)
    have := pow_pos wi.toNat
    omega

set_option maxHeartbeats 400000 in
theorem of_yes (id : Int) (w : World) (hT : TabF w) (h1 : 1 ≤ id) (h2 : id < 15) :
    Calls Tryd.prog 9 #[.int .i64 id] w fun e w' => e = .returned (.tuple #[.agg #[.int .i64 (fK id), .int .i64 (fW id), .int .i64 (fM id), .int .i64 (fB id), .int .u64 (fT id), .int .u64 (fI id), .int .u64 (fN id)], .int .i64 0]) ∧ Below w.heap.size w w' := by
  obtain ⟨hz, hT'⟩ := hT
  obtain ⟨c0, c1, c2, c3, c4, c5, c6⟩ := hT' id h1 h2
  clear hT'
  go_enter Tryd.func9, Tryd.ntmps9
  go_wp2
  refine bodyPost_ret (v := .tuple #[.agg #[.int .i64 (fK id), .int .i64 (fW id), .int .i64 (fM id), .int .i64 (fB id), .int .u64 (fT id), .int .u64 (fI id), .int .u64 (fN id)], .int .i64 0]) (by simp [results, Tryd.results9, go_sem]) rfl ⟨rfl, ?_⟩
  exact ((Below.refl _ _).alloc (Nat.le_refl _) _)
set_option maxHeartbeats 400000 in
theorem of_no (id : Int) (w : World) (h1 : id < 1 ∨ 15 ≤ id) :
    Calls Tryd.prog 9 #[.int .i64 id] w fun e w' => e = .returned (.tuple #[.agg #[.int .i64 0, .int .i64 0, .int .i64 0, .int .i64 0, .int .u64 0, .int .u64 0, .int .u64 0], .int .i64 3]) ∧ Below w.heap.size w w' := by
  rcases h1 with h1 | h1
  all_goals
    go_enter Tryd.func9, Tryd.ntmps9
    go_wp2
    refine bodyPost_ret (v := .tuple #[.agg #[.int .i64 0, .int .i64 0, .int .i64 0, .int .i64 0, .int .u64 0, .int .u64 0, .int .u64 0], .int .i64 3]) (by simp [results, Tryd.results9, go_sem]) rfl ⟨rfl, ?_⟩
    exact ((Below.refl _ _).alloc (Nat.le_refl _) _)

theorem mask_any (k wi ma bi tp nf na : Int) (w : World) (h0 : 0 ≤ wi) (h1 : wi ≤ 64) :
    Calls Tryd.prog 11 #[.agg #[.int .i64 k, .int .i64 wi, .int .i64 ma, .int .i64 bi, .int .u64 tp, .int .u64 nf, .int .u64 na]] w fun e w' => e = .returned (.int .u64 (2 ^ wi.toNat - 1)) ∧ Below w.heap.size w w' := by
  have hp := Lib.hid (mask_pure wi h0 h1)
  go_enter Tryd.func11, Tryd.ntmps11
  go_wp2
  go_ret
  refine ⟨?_, (Below.refl _ _).alloc (Nat.le_refl _) _⟩
  rw [hp.out]; rfl
theorem andNot_half (n : Nat) (h : n ≤ 63) : bits .andNot .u64 (2 ^ (n + 1) - 1) ((2 ^ (n + 1) - 1) / 2) = 2 ^ n :=
  (by decide +kernel : ∀ n : Fin 64, bits .andNot .u64 (2 ^ (n.val + 1) - 1) ((2 ^ (n.val + 1) - 1) / 2) = 2 ^ n.val) ⟨n, by omega⟩
theorem sign_yes (k wi ma bi tp nf na : Int) (w : World) (h0 : 1 ≤ wi) (h1 : wi ≤ 64) (hk : k ≠ 4) :
    Calls Tryd.prog 13 #[.agg #[.int .i64 k, .int .i64 wi, .int .i64 ma, .int .i64 bi, .int .u64 tp, .int .u64 nf, .int .u64 na]] w fun e w' => e = .returned (.int .u64 (2 ^ (wi.toNat - 1))) ∧ Below w.heap.size w w' := by
  have cc := fun (u : Later (w.heap.size + 1) (w.alloc (.cells #[.int .i64 k, .int .i64 wi, .int .i64 ma, .int .i64 bi, .int .u64 tp, .int .u64 nf, .int .u64 na] 25))) => u.box7 w 25 _ _ _ _ _ _ _ rfl
  obtain ⟨c0, c1, c2, c3, c4, c5, c6⟩ := forall7 cc
  clear cc
  have hs := andNot_half (wi.toNat - 1) (by omega)
  rw [show wi.toNat - 1 + 1 = wi.toNat by omega] at hs
  replace hs := Lib.hid hs
  go_enter Tryd.func13, Tryd.ntmps13
  go_wp2
  refine wp_region_later (B := w.heap.size + 1) (by kernel_rfl) (by kernel_rfl) (Below.refl _ _) ?_
  repeat (go_big_quiet_step ((go_at_call 11; refine Calls.later_of (by simp) (mask_any _ _ _ _ _ _ _ _ (by omega) (by omega)))))
  refine wpQuiet_nil ?_
  intro w1 hb1
  go_wp2
  go_ret
  refine ⟨?_, ((Below.refl _ _).alloc (Nat.le_refl _) _).trans (hb1.mono (by omega))⟩
  rw [hs.out]; rfl
theorem sign_no (wi ma bi tp nf na : Int) (w : World) :
    Calls Tryd.prog 13 #[.agg #[.int .i64 4, .int .i64 wi, .int .i64 ma, .int .i64 bi, .int .u64 tp, .int .u64 nf, .int .u64 na]] w fun e w' => e = .returned (.int .u64 0) ∧ Below w.heap.size w w' := by
  go_enter Tryd.func13, Tryd.ntmps13
  go_wp2
  go_ret
  exact ⟨rfl, ((Below.refl _ _).alloc (Nat.le_refl _) _)⟩


theorem ft_bounds (id : Int) : 0 ≤ fW id ∧ fW id ≤ 64 ∧ 4 ≤ fW id ∧ 0 < fT id ∧ 0 ≤ fI id ∧ 0 ≤ fN id ∧ fT id < 18446744073709551616 ∧ fI id < 18446744073709551616 ∧ fN id < 18446744073709551616 := by
  unfold fW fT fI fN
  refine ⟨?_, ?_, ?_, ?_, ?_, ?_, ?_, ?_, ?_⟩ <;> (split <;> omega)
/-- What Fits tells. -/
def fitsV (id p : Int) : Int := if id < 1 ∨ 15 ≤ id then 3 else if p < 2 ^ (fW id).toNat then 0 else 1
theorem over_mask {p : Int} {n : Nat} (hp : 0 ≤ p) : (p / 2 ^ n * 2 ^ n = 0) ↔ p < 2 ^ n := by
  have hq := pow_pos n
  constructor
  · intro hh
    rcases Int.mul_eq_zero.1 hh with h3 | h3
    · have := Int.lt_ediv_add_one_mul_self p hq
      rw [h3] at this; simpa using this
    · omega
  · intro h
    rw [Int.ediv_eq_zero_of_lt hp h, Int.zero_mul]
set_option maxHeartbeats 400000 in
theorem fits_any (id p : Int) (w : World) (hT : TabF w) (hp0 : 0 ≤ p) (hp1 : p < 18446744073709551616) :
    Calls Tryd.prog 17 #[.int .i64 id, .int .u64 p] w fun e w' => e = .returned (.int .i64 (fitsV id p)) ∧ Below w.heap.size w w' := by
  by_cases hid : id < 1 ∨ 15 ≤ id
  · have hv := Lib.hid (show fitsV id p = 3 by unfold fitsV; rw [if_pos hid])
    go_enter Tryd.func17, Tryd.ntmps17
    go_wp2_with fail
    refine (of_no _ _ hid).mono ?_
    rintro e w1 ⟨rfl, hb⟩
    obtain ⟨hc, hf⟩ := bcell hb
    go_wp2
    go_ret
    refine ⟨by rw [hv.out]; rfl, ?_⟩
    exact hb.alloc hb.size _
  · have h1 : 1 ≤ id := by omega
    have h2 : id < 15 := by omega
    clear hid
    obtain ⟨hw0, hw1, -⟩ := ft_bounds id
    have hm := Lib.hid (over_mask (n := (fW id).toNat) hp0)
    have ha := Lib.hid (andNot_mask p (fW id).toNat hp0 hp1 (by omega))
    by_cases hlt : p < 2 ^ (fW id).toNat
    all_goals
      have hv := Lib.hid (show fitsV id p = _ by unfold fitsV; rw [if_neg (by omega)])
      go_enter Tryd.func17, Tryd.ntmps17
      go_wp2_with fail
      refine (of_yes _ _ hT h1 h2).mono ?_
      rintro e w1 ⟨rfl, hb⟩
      obtain ⟨hc, hf⟩ := bcell hb
      have hz := hb.size
      go_wp2_with fail
      refine (mask_any _ _ _ _ _ _ _ _ hw0 hw1).mono ?_
      rintro e w2 ⟨rfl, hb2⟩
      have hd : (bits BinOp.andNot IntKind.u64 p (2 ^ (fW id).toNat - 1) != 0) = decide (¬ p < 2 ^ (fW id).toNat) := by
        rw [ha.out, Bool.eq_iff_iff, bne_iff_ne, decide_eq_true_iff, ne_eq, hm.out]
      simp [hlt] at hd
      go_wp2
      go_ret
      refine ⟨by rw [hv.out]; simp [hlt], ?_⟩
      exact (hb.alloc hz _).trans (hb2.mono (by simp; omega))
theorem half_mod (p : Int) (w : Nat) (h0 : 0 ≤ p) (h1 : p < 2 ^ (w + 1)) (hw : w ≤ 63) : bits .andNot .u64 p (2 ^ w) = p % 2 ^ w := by
  have hq := pow_le63 w hw
  have hq0 := pow_pos w
  have e : (2 : Int) ^ (w + 1) = 2 * 2 ^ w := by rw [Int.pow_succ]; omega
  rw [u64_andNot p _ h0 (by omega) (by omega) (by omega)]
  obtain ⟨n, rfl⟩ := Int.eq_ofNat_of_zero_le h0
  have e2 : ((2 : Int) ^ w).toNat = 2 ^ w := by
    have e : ((2:Nat)^w : Nat) = ((2:Int)^w) := by push_cast; rfl
    omega
  have h1' : n < 2 ^ (w + 1) := by exact_mod_cast h1
  have h64 : 2 ^ w < 2 ^ 64 := Nat.pow_lt_pow_right (by omega) (by omega)
  rw [e2, Int.toNat_natCast, show (18446744073709551615 - 2 ^ w : Nat) = 2 ^ 64 - (2 ^ w + 1) by omega]
  have : n &&& (2 ^ 64 - (2 ^ w + 1)) = n % 2 ^ w := by
    apply Nat.eq_of_testBit_eq
    intro i
    rw [Nat.testBit_and, Nat.testBit_two_pow_sub_succ h64, Nat.testBit_two_pow, Nat.testBit_mod_two_pow]
    by_cases hi : i < w
    · simp [hi, show i < 64 by omega, show ¬ w = i by omega]
    · by_cases hj : i = w
      · simp [hj]
      · have : n.testBit i = false := Nat.testBit_lt_two_pow (Nat.lt_of_lt_of_le h1' (Nat.pow_le_pow_right (n := 2) (i := w + 1) (j := i) (by omega) (by omega)))
        simp [this]
  rw [this]; push_cast; rfl
/-- Is a pattern a number, or infinite? -/
def numB (id p : Int) : Bool := if fK id = 2 then decide (p % 2 ^ ((fW id).toNat - 1) ≤ fT id) || (p % 2 ^ ((fW id).toNat - 1) == fI id) else (fN id == 0) || p != fN id
set_option maxHeartbeats 400000 in
theorem number_any (id p : Int) (w : World) (hp0 : 0 ≤ p) (hp1 : p < 2 ^ (fW id).toNat) :
    Calls Tryd.prog 22 #[.agg #[.int .i64 (fK id), .int .i64 (fW id), .int .i64 (fM id), .int .i64 (fB id), .int .u64 (fT id), .int .u64 (fI id), .int .u64 (fN id)], .int .u64 p] w fun e w' => e = .returned (.bool (numB id p)) ∧ Below w.heap.size w w' := by
  obtain ⟨hw0, hw1, hw2, -⟩ := ft_bounds id
  by_cases hk : fK id = 2
  · have hh := Lib.hid (half_mod p ((fW id).toNat - 1) hp0 (by rw [show (fW id).toNat - 1 + 1 = (fW id).toNat by omega]; exact hp1) (by omega))
    have hk2 : (fK id != 2) = false := by simp [hk]
    have hv := Lib.hid (show numB id p = (decide (p % 2 ^ ((fW id).toNat - 1) ≤ fT id) || (p % 2 ^ ((fW id).toNat - 1) == fI id)) by unfold numB; rw [if_pos hk])
    have hk4 : fK id ≠ 4 := by omega
    have HK := Lib.hid hk
    clear hk
    by_cases ht : p % 2 ^ ((fW id).toNat - 1) ≤ fT id
    all_goals
      go_enter Tryd.func22, Tryd.ntmps22
      go_wp2_with fail
      refine (sign_yes _ _ _ _ _ _ _ _ (by omega) hw1 hk4).mono ?_
      rintro e w2 ⟨rfl, hb2⟩
      obtain ⟨hc, hf⟩ := bcell hb2
      have hz := hb2.size
      simp at hz
      have hr := hh.out
      go_wp2
      go_ret
      exact ⟨by rw [hv.out]; (first | (simp [ht]; done) | (simp [Int.not_le.2 ht])), ((Below.refl _ _).alloc (Nat.le_refl _) _).trans (hb2.mono (by simp))⟩
  · have hk2 : (fK id != 2) = true := by simp [hk]
    have hv := Lib.hid (show numB id p = ((fN id == 0) || p != fN id) by unfold numB; rw [if_neg hk])
    by_cases hn : fN id = 0
    · have hn0 : (fN id == 0) = true := by simp [hn]
      have HK := Lib.hid hn
      clear hn
      go_enter Tryd.func22, Tryd.ntmps22
      go_wp2
      go_ret
      exact ⟨by rw [hv.out, hn0]; rfl, (Below.refl _ _).alloc (Nat.le_refl _) _⟩
    · have hn0 : (fN id == 0) = false := by simp [hn]
      go_enter Tryd.func22, Tryd.ntmps22
      go_wp2
      go_ret
      exact ⟨by rw [hv.out, hn0]; rfl, (Below.refl _ _).alloc (Nat.le_refl _) _⟩

end Go.Proofs.YtmkhmmdomnhacaaDoor
