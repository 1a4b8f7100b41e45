/- Plain: the shortest digits are no greater than all digits. Conditions: none. -/
/- The law PrintDigits, walked. Conditions: the variables that values, words and the library read. -/
import Derived.Test.YtdlkfnkmdlcekaaGreatDoorTp31
import Derived.Test.YtdlkfnkmdlcekaaGreatDoorTp30
import Derived.Test.YtdlkfnkmdlcekaaGreatDoorTp32
import Derived.Test.YtdlkfnkmdlcekaaGreatDoorTp24
namespace Go.Proofs.YtdlkfnkmdlcekaaGreatDoor
open Go.RowKit Go.Cal
theorem exP_mul (N : Nat) (t f : Int) : exP N t f = N * exP 1 t f := by
  unfold exP
  rw [Nat.one_mul, Nat.mul_assoc]
/-- The number as an exact quotient: one cross sum. -/
theorem fl_cross {N m : Nat} {e k : Int} : ∃ C, 0 < C ∧ exP N k k * exQ e 0 = N * flB e k * C ∧ exP m e 0 * exQ k k = flA m e k * C := by
  have c1 := exP_cross N k k e 0
  have c2 := exP_cross m e 0 k k
  have e1 : exP N (k - e) (k - 0) = N * flB e k := by
    unfold flB exP
    rw [Nat.one_mul, Int.sub_zero, Nat.mul_assoc]
  have e2 : exP m (e - k) (0 - k) = flA m e k := by unfold flA; rw [Int.zero_sub]
  rw [e1] at c1
  rw [e2] at c2
  refine ⟨_, Nat.mul_pos (Nat.pow_pos (by decide)) (Nat.two_pow_pos _), c1, ?_⟩
  rw [c2]
  congr 3 <;> omega
/-- Of an exact number of tens: at each lesser power nothing is left over. -/
theorem fl_below {D m : Nat} {e X j : Int} (hx : exP D X X * exQ e 0 = exP m e 0 * exQ X X) (hj : j ≤ X) : flA m e j = D * 10 ^ (X - j).toNat * flB e j := by
  obtain ⟨z, hz⟩ : ∃ z : Nat, X = j + z := ⟨(X - j).toNat, by omega⟩
  subst hz
  rw [show (j + (z : Int) - j).toNat = z by omega]
  have h10 : 0 < 10 ^ z := Nat.pow_pos (by decide)
  have t := tens_cross (d := D * 10 ^ z) (z := z) (k := j) (by rw [Nat.mul_div_cancel _ h10])
  rw [Nat.mul_div_cancel _ h10] at t
  obtain ⟨C, hC, c1, c2⟩ := fl_cross (N := D * 10 ^ z) (m := m) (e := e) (k := j)
  have hq := exQ_pos (j + z) (j + z)
  have key : exP (D * 10 ^ z) j j * exQ e 0 = exP m e 0 * exQ j j := by
    refine Nat.eq_of_mul_eq_mul_right hq ?_
    rw [Nat.mul_right_comm, t, Nat.mul_right_comm, hx, Nat.mul_right_comm]
  rw [c1, c2] at key
  exact (Nat.eq_of_mul_eq_mul_right hC key).symm
theorem fl_above {D m : Nat} {e X k : Int} (hx : exP D X X * exQ e 0 = exP m e 0 * exQ X X) (hk : X ≤ k) : flQ m e k * 10 ^ (k - X).toNat ≤ D := by
  obtain ⟨z, hz⟩ : ∃ z : Nat, k = X + z := ⟨(k - X).toNat, by omega⟩
  subst hz
  rw [show (X + (z : Int) - X).toNat = z by omega]
  obtain ⟨q, hq⟩ : ∃ q, flQ m e (X + z) = q := ⟨_, rfl⟩
  have hA : q * flB e (X + z) ≤ flA m e (X + z) := by rw [← hq]; exact Nat.div_mul_le_self _ _
  rw [hq]
  have h10 : 0 < 10 ^ z := Nat.pow_pos (by decide)
  have t := tens_cross (d := q * 10 ^ z) (z := z) (k := X) (by rw [Nat.mul_div_cancel _ h10])
  rw [Nat.mul_div_cancel _ h10] at t
  obtain ⟨C, hC, c1, c2⟩ := fl_cross (N := q) (m := m) (e := e) (k := X + z)
  have p1 := exQ_pos (X + z) (X + z)
  have p2 := exQ_pos e 0
  have hle : exP q (X + z) (X + z) * exQ e 0 ≤ exP m e 0 * exQ (X + z) (X + z) := by
    rw [c1, c2]; exact Nat.mul_le_mul_right _ hA
  have hfin : exP (q * 10 ^ z) X X * (exQ (X + z) (X + z) * exQ e 0) ≤ exP D X X * (exQ (X + z) (X + z) * exQ e 0) := by
    calc exP (q * 10 ^ z) X X * (exQ (X + z) (X + z) * exQ e 0) = exP q (X + z) (X + z) * exQ X X * exQ e 0 := by rw [← Nat.mul_assoc, t]
      _ = exP q (X + z) (X + z) * exQ e 0 * exQ X X := by rw [Nat.mul_right_comm]
      _ ≤ exP m e 0 * exQ (X + z) (X + z) * exQ X X := Nat.mul_le_mul_right _ hle
      _ = exP m e 0 * exQ X X * exQ (X + z) (X + z) := by rw [Nat.mul_right_comm]
      _ = exP D X X * exQ e 0 * exQ (X + z) (X + z) := by rw [hx]
      _ = exP D X X * (exQ (X + z) (X + z) * exQ e 0) := by ac_rfl
  have h2 := Nat.le_of_mul_le_mul_right hfin (Nat.mul_pos p1 p2)
  rw [exP_mul (q * 10 ^ z), exP_mul D] at h2
  exact Nat.le_of_mul_le_mul_right h2 (exP_pos _ _ (by decide))
/-- The search from above ends at no power below one that goes in. -/
theorem seekL_top {N : Nat} {t X : Int} (hX : ¬ exC N t 0 1 X X < 0) : ∀ (f : Nat) (k : Int), X ≤ k → k - X < f → X ≤ seekL N t f k
  | 0, k, h, h' => by omega
  | f + 1, k, h, h' => by
    unfold seekL
    by_cases hc : exC N t 0 1 k k < 0
    · rw [if_pos hc]
      have hk : X < k := by
        rcases Int.lt_or_eq_of_le h with h1 | h1
        · exact h1
        · subst h1; exact absurd hc hX
      exact seekL_top hX f (k - 1) (by omega) (by omega)
    · rw [if_neg hc]; exact h
theorem lgS_top {N : Nat} {t X : Int} (hN : N < 2 ^ 64) (ht : -2000 ≤ t ∧ t ≤ 2000) (hX : exP 1 X X * exQ t 0 ≤ exP N t 0 * exQ X X) : X ≤ lgS N t := by
  have hb64 : bl N ≤ 64 := bl_iff.2 hN
  have hb : N < 2 ^ bl N := bl_iff.1 (Nat.le_refl _)
  have hS : exS (bl N) t 0 = (bl N : Int) + t := by unfold exS; simp
  unfold lgS
  rw [hS]
  generalize bl N = b at hb hb64 ⊢
  unfold exP exQ at hX
  simp only [Int.toNat_zero, Int.neg_zero, Nat.pow_zero, Nat.mul_one, Nat.one_mul] at hX
  rw [← Nat.mul_pow, ← Nat.mul_pow] at hX
  have hlt : 10 ^ X.toNat * 2 ^ (-t).toNat < 2 ^ (b + t.toNat) * 10 ^ (-X).toNat := by
    refine Nat.lt_of_le_of_lt hX ?_
    rw [Nat.pow_add]
    exact Nat.mul_lt_mul_of_pos_right (Nat.mul_lt_mul_of_pos_right hb (Nat.two_pow_pos _)) (Nat.pow_pos (by decide))
  clear hX hb hS hN
  have hup : (2 : Nat) ^ 93 < 10 ^ 28 := by decide +kernel
  have hlo : (10 : Nat) ^ 59 < 2 ^ 196 := by decide +kernel
  rcases Int.le_total 0 X with h0 | h0
  · rw [show (-X).toNat = 0 by omega, Nat.pow_zero, Nat.mul_one] at hlt
    have hs : 0 < (b : Int) + t := by
      rcases Int.lt_or_le 0 ((b : Int) + t) with h | h
      · exact h
      · exfalso
        have h1 : 2 ^ (b + t.toNat) ≤ 2 ^ (-t).toNat := Nat.pow_le_pow_right (by decide) (by omega)
        have h2 : 2 ^ (-t).toNat ≤ 10 ^ X.toNat * 2 ^ (-t).toNat := Nat.le_mul_of_pos_left _ (Nat.pow_pos (by decide))
        omega
    obtain ⟨s, hs'⟩ : ∃ s : Nat, (b : Int) + t = s := ⟨((b : Int) + t).toNat, by omega⟩
    have h1 : 10 ^ X.toNat < 2 ^ s := by
      rw [show b + t.toNat = s + (-t).toNat by omega, Nat.pow_add] at hlt
      exact Nat.lt_of_mul_lt_mul_right hlt
    have h2 : 10 ^ (X.toNat * 93) < 10 ^ (28 * s) := by
      calc 10 ^ (X.toNat * 93) = (10 ^ X.toNat) ^ 93 := Nat.pow_mul 10 _ 93
        _ < (2 ^ s) ^ 93 := Nat.pow_lt_pow_left h1 (by decide)
        _ = (2 ^ 93) ^ s := by rw [← Nat.pow_mul, Nat.mul_comm, Nat.pow_mul]
        _ ≤ (10 ^ 28) ^ s := Nat.pow_le_pow_left (Nat.le_of_lt hup) _
        _ = 10 ^ (28 * s) := (Nat.pow_mul 10 28 s).symm
    have h3 := (Nat.pow_lt_pow_iff_right (a := 10) (by decide)).1 h2
    clear hlt h1 h2
    have hn : 0 ≤ (((b : Int) + t + 6) * 30103) := by omega
    rw [Int.tdiv_eq_ediv_of_nonneg hn, if_pos (by omega)]
    omega
  · rw [show X.toNat = 0 by omega, Nat.pow_zero, Nat.one_mul] at hlt
    rcases Int.lt_or_le ((b : Int) + t + 6) 0 with hs | hs
    · obtain ⟨s, hs'⟩ : ∃ s : Nat, -((b : Int) + t) = s := ⟨(-((b : Int) + t)).toNat, by omega⟩
      obtain ⟨a, ha⟩ : ∃ a : Nat, -X = a := ⟨(-X).toNat, by omega⟩
      have h1 : 2 ^ s < 10 ^ a := by
        rw [show (-t).toNat = (b + t.toNat) + s by omega, Nat.pow_add, show (-X).toNat = a by omega] at hlt
        exact Nat.lt_of_mul_lt_mul_left hlt
      have h2 : 10 ^ (59 * s) < 10 ^ (a * 196) := by
        calc 10 ^ (59 * s) = (10 ^ 59) ^ s := Nat.pow_mul 10 59 s
          _ ≤ (2 ^ 196) ^ s := Nat.pow_le_pow_left (Nat.le_of_lt hlo) _
          _ = (2 ^ s) ^ 196 := by rw [← Nat.pow_mul, Nat.mul_comm, Nat.pow_mul]
          _ < (10 ^ a) ^ 196 := Nat.pow_lt_pow_left h1 (by decide)
          _ = 10 ^ (a * 196) := (Nat.pow_mul 10 a 196).symm
      have h3 := (Nat.pow_lt_pow_iff_right (a := 10) (by decide)).1 h2
      clear hlt h1 h2
      have e : (((b : Int) + t + 6) * 30103) = -(-(((b : Int) + t + 6) * 30103)) := by omega
      rw [e, Int.neg_tdiv, Int.tdiv_eq_ediv_of_nonneg (by omega)]
      split <;> omega
    · have hn : 0 ≤ (((b : Int) + t + 6) * 30103) := by omega
      rw [Int.tdiv_eq_ediv_of_nonneg hn, if_pos (by omega)]
      clear hlt
      omega
theorem lgV_top {N : Nat} {t X : Int} (hN : N < 2 ^ 64) (ht : -2000 ≤ t ∧ t ≤ 2000) (hx0 : -4000 ≤ X) (hX : exP 1 X X * exQ t 0 ≤ exP N t 0 * exQ X X) : X ≤ lgV N t := by
  have h1 := lgS_top hN ht hX
  have h2 := (lgS_bnd hN ht).2
  refine seekL_top (fun h => ?_) 6000 (lgS N t) h1 (by omega)
  unfold exC at h
  rcases cmpV_cases ((exP N t 0 * exQ X X : Nat) : Int) ((exP 1 X X * exQ t 0 : Nat) : Int) with ⟨h', hv⟩ | ⟨h', hv⟩ | ⟨h', hv⟩
  · omega
  · rw [hv] at h; exact absurd h (by decide)
  · rw [hv] at h; exact absurd h (by decide)
/-- The shortest digits are no greater than all digits. -/
theorem short_le {id p : Int} {ng : Bool} {K mv : Nat} {ev : Int} (h : Fin id p ng K mv ev) : (shortV (limV id ng K) mv ev 2000).1 ≤ (fullV mv ev 2000).1 := by
  obtain ⟨b1, b2, b3, b4⟩ := h.bnd
  obtain ⟨hE, x2, hK0, -⟩ := h.lims
  have hM := (hasM_bnd b2 ⟨b3, b4⟩ (show 1991 ≤ 2000 by decide)).1
  obtain ⟨z, z1, z2, z3, -⟩ := stripV_is 2000 (hasM mv ev) (hasK ev) (hasM_pos b1) (Nat.lt_of_succ_lt hM)
  have hF : fullV mv ev 2000 = (hasM mv ev / 10 ^ z, hasK ev + z) := z1
  obtain ⟨D, hD⟩ : ∃ D, hasM mv ev / 10 ^ z = D := ⟨_, rfl⟩
  obtain ⟨X, hXd⟩ : ∃ X : Int, hasK ev + z = X := ⟨_, rfl⟩
  have hD0 : 0 < D := by
    rcases Nat.eq_zero_or_pos D with h0 | h0
    · rw [hD, h0] at z3; exact absurd rfl z3
    · exact h0
  have hx : exP D X X * exQ ev 0 = exP mv ev 0 * exQ X X := by
    have t := tens_cross (k := hasK ev) z2
    rw [hD, hXd] at t
    have c := has_cross mv ev
    refine Nat.eq_of_mul_eq_mul_right (exQ_pos (hasK ev) (hasK ev)) ?_
    rw [Nat.mul_right_comm, ← t, Nat.mul_right_comm, c, Nat.mul_right_comm]
  have hXlo : -2000 ≤ X := by
    rw [← hXd]
    unfold hasK
    split <;> omega
  rw [hF, hD]
  show (shortV (limV id ng K) mv ev 2000).1 ≤ D
  have hlg : X ≤ lgV mv ev := by
    refine lgV_top (by simpa using b2) ⟨b3, b4⟩ (by omega) ?_
    rw [← hx, exP_mul D]
    exact Nat.mul_le_mul_right _ (Nat.le_mul_of_pos_left _ hD0)
  have hlb := lgV_bnd b1 (by simpa using b2) ⟨b3, b4⟩
  have hB : ∀ j, 0 < flB ev j := fun j => exP_pos _ _ (by decide)
  have hmod : ∀ j, j ≤ X → flA mv ev j % flB ev j = 0 := fun j hj => by rw [fl_below hx hj]; exact Nat.mul_mod_left _ _
  have hnig : ∀ j, j ≤ X → nigV (limV id ng K) mv ev j ≠ none := by
    intro j hj
    have hf := hmod j hj
    have hh := itv_own (d := flQ mv ev j) (k := j) hE x2 hK0 (by rw [h.mag]; exact fl_exact hf)
    have hr : flR mv ev j = 0 := by unfold flR; rw [if_pos hf]
    unfold nigV
    rw [hr, if_neg (fun h => absurd h.2.1 (by decide)), if_neg (fun h => absurd h.1 (by decide)), if_pos hh]
    intro h; cases h
  obtain ⟨d, k, e1, e2, e3, e4⟩ := seekV_is 3000 (lgV mv ev) X (by omega) (by decide) hnig
  obtain ⟨n1, n2⟩ := nearV_some e2
  have hkX : X ≤ k := by omega
  have hab := fl_above hx hkX
  have hdD : d ≤ D := by
    rcases Int.lt_or_eq_of_le hkX with hlt | heq
    · have h10 : 10 ≤ 10 ^ (k - X).toNat := by
        calc 10 = 10 ^ 1 := rfl
          _ ≤ 10 ^ (k - X).toNat := Nat.pow_le_pow_right (by decide) (by omega)
      have h2 := Nat.le_trans (Nat.mul_le_mul_left (flQ mv ev k) h10) hab
      omega
    · subst heq
      have hr : flR mv ev X = 0 := by unfold flR; rw [if_pos (hmod X (Int.le_refl _))]
      rw [hr] at n2
      rw [show (X - X).toNat = 0 by omega, Nat.pow_zero, Nat.mul_one] at hab
      omega
  have hd0 := itv_pos n1
  have hdlt : d < 10 ^ 2000 := by
    refine Nat.lt_of_le_of_lt hdD ?_
    rw [← hD]
    exact Nat.lt_of_le_of_lt (Nat.div_le_self _ _) (Nat.lt_of_succ_lt hM)
  obtain ⟨y, y1, -⟩ := stripV_is 2000 d k hd0 hdlt
  unfold shortV
  rw [e1]
  show (stripV 2000 d k).1 ≤ D
  rw [y1]
  exact Nat.le_trans (Nat.div_le_self _ _) hdD
end Go.Proofs.YtdlkfnkmdlcekaaGreatDoor
namespace Go.Proofs.YtdlkfnkmdlcekaaGreatDoor
open Go.RowKit Go.Cal
theorem nrm_le {a b : List Nat} {N M : Nat} (ha : Nrm a N) (hb : Nrm b M) (h : N ≤ M) : a.length ≤ b.length := by
  refine ha.length_le ?_
  have := vl_lt hb.dig
  rw [hb.val] at this
  omega
theorem nrm_pos {a : List Nat} {N : Nat} (ha : Nrm a N) (h : 0 < N) : 0 < a.length := by
  rcases Nat.eq_zero_or_pos a.length with h0 | h0
  · have := ha.val
    rw [List.length_eq_zero_iff.1 h0] at this
    simp [vl] at this
    omega
  · exact h0
set_option maxRecDepth 100000 in
set_option maxHeartbeats 4000000 in
theorem digits_main (id p ev : Int) (ng : Bool) (mv : Nat) (S T : List UInt8) (D E : Nat) (X Y : Int)
    (hdc : Hid (∀ w, PrW w → Calls Tryz.prog 14 #[.int .i64 id, .int .u64 p] w fun e w' => e = .returned (.tuple #[.agg #[.int .i64 2, .bool ng, .int .u64 mv, .int .i64 ev], .int .i64 0]) ∧ Below w.heap.size w w'))
    (hpr : Hid (∀ w, PrW w → Calls Tryz.prog 34 #[.int .i64 id, .int .u64 p] w fun e w' => e = .returned (.tuple #[.string (strL S), .int .i64 0]) ∧ Below w.heap.size w w'))
    (hfu : Hid (∀ w, PrW w → Calls Tryz.prog 16 #[.int .i64 id, .int .u64 p] w fun e w' => e = .returned (.tuple #[.string (strL T), .int .i64 0]) ∧ Below w.heap.size w w'))
    (hs : Hid (unS S = some (ng, D, X))) (ht : Hid (unS T = some (ng, E, Y))) (ls : S.length ≤ 300000) (lt : T.length ≤ 300000) (h0 : 0 < D) (hle : D ≤ E) (w : World) (hW : PrW w) (hY : LyW w) :
    Calls Tryz.prog 11 #[.int .i64 id, .int .u64 p] w fun e w' => e = .returned (.bool true) ∧ Below w.heap.size w w' := by
  have hsh := Lib.hid fun w (hW : PrW w) => rshown_any w hW
  have hL0 := LiveP.start w
  go_enter Tryz.func11, Tryz.ntmps11
  go_wp2_with fail
  refine (hsh.out _ hW).mono ?_
  rintro e w1 ⟨rfl, hb⟩
  have hL1 := hL0.go hb
  clear hb
  go_wp2_with fail
  refine (hdc.out _ (hW.below hL1.below)).mono ?_
  rintro e w2 ⟨rfl, hb⟩
  have hL2 := ((hL1.go hb).go ((Below.refl _ _).alloc (Nat.le_refl _) (.cells #[.int .i64 2, .bool ng, .int .u64 mv, .int .i64 ev] 25))).put (pBlk_st _ _ _) (pBlk_made w2 #[.int .i64 2, .bool ng, .int .u64 mv, .int .i64 ev] 25)
  clear hb
  obtain ⟨p0, p1, p2, p3⟩ := cells4 (hL2.get (P := pBlk w2.heap.size #[.int .i64 2, .bool ng, .int .u64 mv, .int .i64 ev] 25) (by repeat (first | exact List.mem_cons_self | apply List.mem_cons_of_mem)))
  go_wp2_with fail
  refine (hpr.out _ (hW.below hL2.below)).mono ?_
  rintro e w3 ⟨rfl, hb⟩
  have hL3 := hL2.go hb
  clear hb p0 p1 p2 p3
  go_wp2_with fail
  refine (hfu.out _ (hW.below hL3.below)).mono ?_
  rintro e w4 ⟨rfl, hb⟩
  have hL4 := hL3.go hb
  clear hb
  go_wp2_with fail
  refine (unlay_is S ls ng D X hs.out _ (hY.below hL4.below)).mono ?_
  rintro e w5 ⟨u, rfl, ⟨A1, c1, zs1, rfl, r1, k1, m1, s1, q1⟩, hb⟩
  obtain ⟨n1, hn1⟩ : ∃ n, zs1.length = n := ⟨_, rfl⟩
  rw [hn1]
  have hL5 := ((hL4.go hb).go ((Below.refl _ _).alloc (Nat.le_refl _) (.cells #[.bool ng, .slice A1 n1 c1, .int .i64 X] 72))).put (pBlk_st _ _ _) (pBlk_made w5 #[.bool ng, .slice A1 n1 c1, .int .i64 X] 72)
  clear hb r1
  go_wp2_with fail
  refine (unlay_is T lt ng E Y ht.out _ (hY.below hL5.below)).mono ?_
  rintro e w6 ⟨u, rfl, ⟨A2, c2, zs2, rfl, r2, k2, m2, s2, q2⟩, hb⟩
  obtain ⟨n2, hn2⟩ : ∃ n, zs2.length = n := ⟨_, rfl⟩
  rw [hn2]
  have hL6 := ((hL5.go hb).go ((Below.refl _ _).alloc (Nat.le_refl _) (.cells #[.bool ng, .slice A2 n2 c2, .int .i64 Y] 72))).put (pBlk_st _ _ _) (pBlk_made w6 #[.bool ng, .slice A2 n2 c2, .int .i64 Y] 72)
  clear hb r2
  have g1 : 1 ≤ n1 := by have := nrm_pos q1 h0; omega
  have g2 : n1 ≤ n2 := by have := nrm_le q1 q2 hle; omega
  clear q1 q2 hn1 hn2
  obtain ⟨p0, p1, p2, p3⟩ := cells4 (hL6.get (P := pBlk w2.heap.size #[.int .i64 2, .bool ng, .int .u64 mv, .int .i64 ev] 25) (by repeat (first | exact List.mem_cons_self | apply List.mem_cons_of_mem)))
  have a0 := (hL6.get (P := pBlk w5.heap.size #[.bool ng, .slice A1 n1 c1, .int .i64 X] 72) (by repeat (first | exact List.mem_cons_self | apply List.mem_cons_of_mem))).cell 0 _ rfl
  have a1 := (hL6.get (P := pBlk w5.heap.size #[.bool ng, .slice A1 n1 c1, .int .i64 X] 72) (by repeat (first | exact List.mem_cons_self | apply List.mem_cons_of_mem))).cell 1 _ rfl
  have b0 := (hL6.get (P := pBlk w6.heap.size #[.bool ng, .slice A2 n2 c2, .int .i64 Y] 72) (by repeat (first | exact List.mem_cons_self | apply List.mem_cons_of_mem))).cell 0 _ rfl
  have b1 := (hL6.get (P := pBlk w6.heap.size #[.bool ng, .slice A2 n2 c2, .int .i64 Y] 72) (by repeat (first | exact List.mem_cons_self | apply List.mem_cons_of_mem))).cell 1 _ rfl
  go_wp2
  all_goals
    go_ret
    exact ⟨by simp, hL6.below⟩
set_option maxRecDepth 100000 in
set_option maxHeartbeats 4000000 in
theorem digits_off (id p c ev E : Int) (ng : Bool) (mv : Nat)
    (hdc : Hid (∀ w, PrW w → Calls Tryz.prog 14 #[.int .i64 id, .int .u64 p] w fun e w' => e = .returned (.tuple #[.agg #[.int .i64 c, .bool ng, .int .u64 mv, .int .i64 ev], .int .i64 E]) ∧ Below w.heap.size w w'))
    (hE : (E != 0) = true ∨ ((E != 0) = false ∧ (c != 2) = true)) (w : World) (hW : PrW w) :
    Calls Tryz.prog 11 #[.int .i64 id, .int .u64 p] w fun e w' => e = .returned (.bool true) ∧ Below w.heap.size w w' := by
  have hsh := Lib.hid fun w (hW : PrW w) => rshown_any w hW
  have hL0 := LiveP.start w
  rcases hE with hE | ⟨hE, hc⟩
  all_goals
                go_enter Tryz.func11, Tryz.ntmps11
                go_wp2_with fail
                refine (hsh.out _ hW).mono ?_
                rintro e w1 ⟨rfl, hb⟩
                have hL1 := hL0.go hb
                clear hb
                go_wp2_with fail
                refine (hdc.out _ (hW.below hL1.below)).mono ?_
                rintro e w2 ⟨rfl, hb⟩
                have hL2 := ((hL1.go hb).go ((Below.refl _ _).alloc (Nat.le_refl _) (.cells #[.int .i64 c, .bool ng, .int .u64 mv, .int .i64 ev] 25))).put (pBlk_st _ _ _) (pBlk_made w2 #[.int .i64 c, .bool ng, .int .u64 mv, .int .i64 ev] 25)
                clear hb
                obtain ⟨p0, p1, p2, p3⟩ := cells4 (hL2.get (P := pBlk w2.heap.size #[.int .i64 c, .bool ng, .int .u64 mv, .int .i64 ev] 25) (by repeat (first | exact List.mem_cons_self | apply List.mem_cons_of_mem)))
                go_wp2
                go_ret
                exact ⟨rfl, hL2.below⟩
theorem printDigits_any (id p : Int) (hp0 : 0 ≤ p) (hp1 : p < 18446744073709551616) (w : World) (hW : PrW w) (hY : LyW w) :
    Calls Tryz.prog 11 #[.int .i64 id, .int .u64 p] w fun e w' => e = .returned (.bool true) ∧ Below w.heap.size w w' := by
  by_cases hf : fitsV id p = 0
  · obtain ⟨h1, h2, h3⟩ := fits_two hf
    have hdc := fun w (hW : PrW w) => vdec_yes id p h1 h2 hp0 h3 w hW.va
    by_cases hc : classV id p = 2
    · have fx := fin_of h1 h2 hp0 h3 hc
      have hpr := fun w (hW : PrW w) => print_any id p hp0 hp1 w hW
      have hfu := fun w (hW : PrW w) => pfull_any id p hp0 hp1 w hW
      have rx := short_right fx
      have ry := full_right fx
      have hle := short_le fx
      obtain ⟨d, k, n1, -, -, -, -, n6⟩ := short_some fx
      obtain ⟨b1, b2, b3, b4⟩ := fx.bnd
      obtain ⟨z, z1, -, z3, -⟩ := n6 2000 (hasM_bnd b2 ⟨b3, b4⟩ (show 1991 ≤ 2000 by decide)).1
      have h0 : 0 < (shortV (limV id (partN id p) (priK id p)) (decM id p) (decE id p) 2000).1 := by
        rw [z1]
        rcases Nat.eq_zero_or_pos (d / 10 ^ z) with h | h
        · rw [h] at z3; exact absurd rfl z3
        · exact h
      have eS : priT id p = lyT (partN id p) (shoD id p).1 (shoD id p).2 := by unfold priT; rw [if_neg (show ¬ fitsV id p ≠ 0 from fun h => h hf), if_pos hc]
      have eT : fulT id p = lyT (partN id p) (fulD id p).1 (fulD id p).2 := by unfold fulT; rw [if_neg (show ¬ fitsV id p ≠ 0 from fun h => h hf), if_pos hc]
      have ls := lyT_len (partN id p) rx
      have lt := lyT_len (partN id p) ry
      have us := unS_lyT (partN id p) rx
      have ut := unS_lyT (partN id p) ry
      rw [hf, eS] at hpr
      rw [hf, eT] at hfu
      have hn : decN id p = partN id p := fx.dec.1
      rw [hc, hn] at hdc
      exact digits_main id p _ _ _ _ _ _ _ _ _ (Lib.hid hdc) (Lib.hid hpr) (Lib.hid hfu) (Lib.hid us) (Lib.hid ut) (Nat.le_trans ls (by decide)) (Nat.le_trans lt (by decide)) h0 hle w hW hY
    · exact digits_off id p _ _ _ _ _ (Lib.hid hdc) (.inr ⟨rfl, by simp [hc]⟩) w hW
  · obtain ⟨c, n, m, x, hd⟩ := dec_some id p hp0 hp1
    exact digits_off id p c x _ n m hd (.inl (by simp [hf])) w hW
end Go.Proofs.YtdlkfnkmdlcekaaGreatDoor
