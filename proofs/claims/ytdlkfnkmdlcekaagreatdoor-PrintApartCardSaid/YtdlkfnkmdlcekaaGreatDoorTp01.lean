/- Plain: the magnitudes of the forms that are no posits, as numbers; all forms' magnitudes and the boundaries between them rise. Conditions: none. -/
/- Plain: a magnitude's number, as the code reckons it, is the form's number. Conditions: none. -/
/- Plain: about how many bits a number has tells which one of two is larger, where these are far from one another. Conditions: none. -/
/- Plain: the magnitude that a number is rounded to: the least one behind which a boundary is not below it. Conditions: none. -/
/- Plain: the table of the forms as functions; signs, magnitudes and patterns. Conditions: none. -/
/- Plain: what the code reckons of a posit's fields, of odd numbers, and of the order of numbers. Conditions: none. -/
/- Plain: what a text of a number is; the document's states. Conditions: none. -/
/- Plain: words among texts; the whole of a text, by states and by parts. Conditions: none. -/
/- Plain: what a text of a number is worth; where no text goes on. Conditions: none. -/
/- Plain: texts of numbers put together, and what they are worth. Conditions: none. -/
import Derived.Test.YtdlkfnkmdlcekaaGreatDoorTp00
import Derived.Lib.TrailingZeros
namespace Go.Cal
def miM (man key : Nat) : Nat := if key / 2 ^ man = 0 then key % 2 ^ man else 2 ^ man + key % 2 ^ man
def miE (man key : Nat) : Nat := max (key / 2 ^ man) 1
/-- The number of a magnitude, by so many twos. -/
def miW (man key : Nat) : Nat := miM man key * 2 ^ (miE man key - 1)
theorem miW_mono {man k1 k2 : Nat} (h : k1 < k2) : miW man k1 < miW man k2 := by
  obtain ⟨p, hp⟩ : ∃ p, 2 ^ man = p := ⟨_, rfl⟩
  have hp0 : 0 < p := hp ▸ Nat.two_pow_pos man
  have a1 := Nat.div_add_mod k1 p
  have a2 := Nat.div_add_mod k2 p
  have l1 := Nat.mod_lt k1 hp0
  have l2 := Nat.mod_lt k2 hp0
  have hle : k1 / p ≤ k2 / p := Nat.div_le_div_right (Nat.le_of_lt h)
  unfold miW miM miE
  rw [hp]
  by_cases he : k1 / p = k2 / p
  · have hr : k1 % p < k2 % p := by rw [he] at a1; omega
    rw [he]
    refine Nat.mul_lt_mul_of_pos_right ?_ (Nat.two_pow_pos _)
    split <;> omega
  · have hlt : k1 / p + 1 ≤ k2 / p := by omega
    obtain ⟨f1, hf1⟩ : ∃ f, k1 / p = f := ⟨_, rfl⟩
    obtain ⟨f2, hf2⟩ : ∃ f, k2 / p = f := ⟨_, rfl⟩
    rw [hf1, hf2] at hlt ⊢
    rw [if_neg (show ¬ f2 = 0 by omega)]
    have h2 : p * 2 ^ (f2 - 1) ≤ (p + k2 % p) * 2 ^ (max f2 1 - 1) := by
      rw [show max f2 1 = f2 by omega]
      exact Nat.mul_le_mul_right _ (by omega)
    refine Nat.lt_of_lt_of_le ?_ h2
    by_cases h0 : f1 = 0
    · rw [if_pos h0, h0, show max 0 1 - 1 = 0 by omega, Nat.pow_zero, Nat.mul_one]
      have := Nat.two_pow_pos (f2 - 1)
      have : p * 1 ≤ p * 2 ^ (f2 - 1) := Nat.mul_le_mul_left _ this
      omega
    · rw [if_neg h0, show max f1 1 = f1 by omega]
      have h3 : 2 ^ (f1 - 1 + 1) ≤ 2 ^ (f2 - 1) := Nat.pow_le_pow_right (by decide) (by omega)
      have h4 := Nat.two_pow_pos (f1 - 1)
      refine Nat.lt_of_lt_of_le (Nat.mul_lt_mul_of_pos_right (show p + k1 % p < p * 2 by omega) h4) ?_
      rw [Nat.mul_assoc, Nat.mul_comm 2, ← Nat.pow_succ]
      exact Nat.mul_le_mul_left _ h3
theorem miW_twice (man key : Nat) : miW (man + 1) (2 * key) = 2 * miW man key := by
  have hd : 2 * key / 2 ^ (man + 1) = key / 2 ^ man := by rw [Nat.pow_succ, Nat.mul_comm (2 ^ man) 2, Nat.mul_div_mul_left _ _ (by decide)]
  unfold miW miM miE
  rw [hd, mod_twice, Nat.pow_succ]
  split
  · rw [Nat.mul_assoc]
  · rw [show 2 ^ man * 2 + 2 * (key % 2 ^ man) = 2 * (2 ^ man + key % 2 ^ man) by omega, Nat.mul_assoc]
/-- A form's numbers, and the boundaries behind them, times 2 to the power of 2000: that of a key at twice the key, the boundary behind it one further. -/
def uN (kd wd mn bs j : Nat) : Nat :=
  if kd = 1 then (if j = 0 then 0 else poV 2000 wd j)
  else if kd = 2 then miW (mn + 1) j * 2 ^ (2000 - bs - mn)
  else if kd = 3 then j * 2 ^ (1999 - mn)
  else (2 + j % 2) * 2 ^ (1999 + j / 2 - bs)
theorem poV_pos {n key : Nat} (h : key < 2 ^ n) (hn : n ≤ 300) : 0 < poV 2000 n key := by
  obtain ⟨M, _, e⟩ := poV_eq (K := 2000) h (by omega)
  rw [e]
  have := (poW_lt M (poL n key) (key % 2 ^ poL n key) (Nat.mod_lt _ (Nat.two_pow_pos _))).1
  exact Nat.lt_of_lt_of_le (Nat.mul_pos (Nat.two_pow_pos _) (Nat.two_pow_pos _)) this
theorem uN_mono {kd wd mn bs j1 j2 : Nat} (hw : kd = 1 → 1 ≤ wd ∧ wd ≤ 300 ∧ j2 < 2 ^ wd) (hb : bs ≤ 1900) (h : j1 < j2) : uN kd wd mn bs j1 < uN kd wd mn bs j2 := by
  unfold uN
  by_cases c1 : kd = 1
  · obtain ⟨w1, w2, w3⟩ := hw c1
    rw [if_pos c1, if_pos c1, if_neg (show ¬ j2 = 0 by omega)]
    by_cases h0 : j1 = 0
    · rw [if_pos h0]; exact poV_pos w3 w2
    · rw [if_neg h0]; exact poV_mono w1 (by omega) h w3 (by omega)
  · rw [if_neg c1, if_neg c1]
    by_cases c2 : kd = 2
    · rw [if_pos c2, if_pos c2]
      exact Nat.mul_lt_mul_of_pos_right (miW_mono h) (Nat.two_pow_pos _)
    · rw [if_neg c2, if_neg c2]
      by_cases c3 : kd = 3
      · rw [if_pos c3, if_pos c3]
        exact Nat.mul_lt_mul_of_pos_right h (Nat.two_pow_pos _)
      · rw [if_neg c3, if_neg c3]
        by_cases he : j1 / 2 = j2 / 2
        · rw [he]
          exact Nat.mul_lt_mul_of_pos_right (by omega) (Nat.two_pow_pos _)
        · have h1 : 2 ^ (1999 + j1 / 2 - bs + 1) ≤ 2 ^ (1999 + j2 / 2 - bs) := Nat.pow_le_pow_right (by decide) (by omega)
          have h2 := Nat.two_pow_pos (1999 + j1 / 2 - bs)
          rw [Nat.pow_succ] at h1
          have h3 : (2 + j1 % 2) * 2 ^ (1999 + j1 / 2 - bs) < 4 * 2 ^ (1999 + j1 / 2 - bs) := Nat.mul_lt_mul_of_pos_right (by omega) h2
          have h4 : 2 * 2 ^ (1999 + j2 / 2 - bs) ≤ (2 + j2 % 2) * 2 ^ (1999 + j2 / 2 - bs) := Nat.mul_le_mul_right _ (by omega)
          omega
end Go.Cal
namespace Go.Cal
/-- How many twos are in a number. -/
def tzN : Nat → Nat → Nat
  | 0, _ => 0
  | f + 1, m => if m % 2 = 0 then tzN f (m / 2) + 1 else 0
theorem tzN_div : ∀ (f m : Nat), m / 2 ^ tzN f m * 2 ^ tzN f m = m
  | 0, m => by simp [tzN]
  | f + 1, m => by
    unfold tzN
    by_cases h : m % 2 = 0
    · rw [if_pos h]
      have ih := tzN_div f (m / 2)
      rw [Nat.pow_succ, Nat.mul_comm (2 ^ tzN f (m / 2)) 2, ← Nat.div_div_eq_div_mul, Nat.mul_left_comm, ih]
      omega
    · rw [if_neg h]; simp
/-- A number as an odd one, and a power of two. -/
def oddP (f m : Nat) (e : Int) : Nat × Int := if m = 0 then (0, 0) else (m / 2 ^ tzN f m, e + tzN f m)
theorem oddP_val {f m K : Nat} {e : Int} (hK : 0 ≤ (K : Int) + e) : (oddP f m e).1 * 2 ^ ((K : Int) + (oddP f m e).2).toNat = m * 2 ^ ((K : Int) + e).toNat := by
  unfold oddP
  by_cases h : m = 0
  · rw [if_pos h, h]; simp
  · rw [if_neg h]
    obtain ⟨a, ha⟩ : ∃ a : Nat, (K : Int) + e = a := ⟨((K : Int) + e).toNat, by omega⟩
    have h2 : (K : Int) + (e + (tzN f m : Nat)) = ((a + tzN f m : Nat) : Int) := by omega
    show m / 2 ^ tzN f m * 2 ^ ((K : Int) + (e + (tzN f m : Nat))).toNat = _
    rw [h2, ha, Int.toNat_natCast, Int.toNat_natCast, Nat.pow_add, Nat.mul_comm (2 ^ a), ← Nat.mul_assoc, tzN_div]
/-- A magnitude's number with so many bits more, ahead of its being made odd. -/
def numQ (kd wd mn bs more key : Nat) : Nat × Int :=
  if kd = 1 then (poF (poL (wd + more - 1) key) (key % 2 ^ poL (wd + more - 1) key), 4 * poR (wd + more - 1) key + poE (poL (wd + more - 1) key) (key % 2 ^ poL (wd + more - 1) key) - ((poL (wd + more - 1) key - 2 : Nat) : Int))
  else if kd = 2 then (miM (mn + more) key, (miE (mn + more) key : Int) - bs - (mn + more : Nat))
  else if kd = 3 then (key, -((mn + more : Nat) : Int))
  else (1 + 2 * more, (key / 2 ^ more : Nat) - (bs : Int) - (more : Nat))
theorem numQ_two (kd wd mn bs key : Nat) (hw : kd = 1 → 2 ≤ wd ∧ wd ≤ 300 ∧ 0 < key ∧ key < 2 ^ (wd - 1)) (hb : bs + mn ≤ 1900) :
    0 ≤ (2000 : Int) + (numQ kd wd mn bs 0 key).2 ∧ (numQ kd wd mn bs 0 key).1 * 2 ^ ((2000 : Int) + (numQ kd wd mn bs 0 key).2).toNat = uN kd wd mn bs (2 * key) := by
  unfold numQ uN
  by_cases h1 : kd = 1
  · obtain ⟨w1, w2, w3, w4⟩ := hw h1
    rw [if_pos h1, if_pos h1, if_neg (by omega)]
    have hl := poL_le w4
    have hr := poR_ge w4
    have ht := poV_twice (K := 2000) (n := wd - 1) (key := key) (by omega) w3 w4 (by omega)
    rw [show wd - 1 + 1 = wd by omega] at ht
    rw [ht, Nat.add_zero]
    constructor
    · simp only; omega
    · unfold poV
      simp only
      congr 2
      omega
  · rw [if_neg h1, if_neg h1]
    by_cases h2 : kd = 2
    · rw [if_pos h2, if_pos h2, miW_twice, Nat.add_zero]
      constructor
      · simp only; omega
      · simp only
        unfold miW
        have he : 1 ≤ miE mn key := by unfold miE; omega
        obtain ⟨x, hx⟩ : ∃ x, miE mn key = x + 1 := ⟨miE mn key - 1, by omega⟩
        rw [hx, show x + 1 - 1 = x by omega, show ((2000 : Int) + (((x + 1 : Nat) : Int) - (bs : Int) - (mn : Nat))).toNat = 1 + x + (2000 - bs - mn) by omega, Nat.pow_add, Nat.pow_add]
        rw [Nat.pow_one]
        ac_rfl
    · rw [if_neg h2, if_neg h2]
      by_cases h3 : kd = 3
      · rw [if_pos h3, if_pos h3, Nat.add_zero]
        constructor
        · simp only; omega
        · simp only
          rw [show ((2000 : Int) + -(mn : Int)).toNat = 1 + (1999 - mn) by omega, Nat.pow_add, Nat.pow_one]
          ac_rfl
      · rw [if_neg h3, if_neg h3]
        simp only [Nat.pow_zero, Nat.div_one]
        constructor
        · omega
        · rw [show ((2000 : Int) + ((key : Int) - (bs : Int) - ((0 : Nat) : Int))).toNat = 1 + (1999 + 2 * key / 2 - bs) by omega, Nat.pow_add, Nat.pow_one, show 2 * key % 2 = 0 by omega]
          omega
theorem numQ_one (kd wd mn bs j : Nat) (hj : j % 2 = 1) (hw : kd = 1 → 1 ≤ wd ∧ wd ≤ 300 ∧ j < 2 ^ wd) (hb : bs + mn ≤ 1900) :
    0 ≤ (2000 : Int) + (numQ kd wd mn bs 1 j).2 ∧ (numQ kd wd mn bs 1 j).1 * 2 ^ ((2000 : Int) + (numQ kd wd mn bs 1 j).2).toNat = uN kd wd mn bs j := by
  unfold numQ uN
  by_cases h1 : kd = 1
  · obtain ⟨w1, w2, w4⟩ := hw h1
    rw [if_pos h1, if_pos h1, if_neg (by omega), show wd + 1 - 1 = wd by omega]
    have hl := poL_le w4
    have hr := poR_ge w4
    constructor
    · simp only; omega
    · unfold poV
      simp only
      congr 2
      omega
  · rw [if_neg h1, if_neg h1]
    by_cases h2 : kd = 2
    · rw [if_pos h2, if_pos h2]
      constructor
      · simp only; omega
      · simp only
        unfold miW
        have he : 1 ≤ miE (mn + 1) j := by unfold miE; omega
        obtain ⟨x, hx⟩ : ∃ x, miE (mn + 1) j = x + 1 := ⟨miE (mn + 1) j - 1, by omega⟩
        rw [hx, show x + 1 - 1 = x by omega, show ((2000 : Int) + (((x + 1 : Nat) : Int) - (bs : Int) - ((mn + 1 : Nat) : Int))).toNat = x + (2000 - bs - mn) by omega, Nat.pow_add]
        ac_rfl
    · rw [if_neg h2, if_neg h2]
      by_cases h3 : kd = 3
      · rw [if_pos h3, if_pos h3]
        constructor
        · simp only; omega
        · simp only
          rw [show ((2000 : Int) + -((mn + 1 : Nat) : Int)).toNat = 1999 - mn by omega]
      · rw [if_neg h3, if_neg h3]
        simp only [Nat.pow_one]
        constructor
        · omega
        · rw [show ((2000 : Int) + (((j / 2 : Nat) : Int) - (bs : Int) - ((1 : Nat) : Int))).toNat = 1999 + j / 2 - bs by omega, hj]
end Go.Cal
namespace Go.Cal
/-- The logarithm of a power of five to the base of two, about. -/
def lg5 (f : Nat) : Nat := f * 2321928095 / 1000000000
theorem five_low (f : Nat) : 2 ^ (f * 339 / 146) ≤ 5 ^ f := by
  have h0 : 2 ^ 339 ≤ 5 ^ 146 := by decide +kernel
  refine (Nat.pow_le_pow_iff_left (n := 146) (by decide)).1 ?_
  rw [← Nat.pow_mul, ← Nat.pow_mul, Nat.mul_comm f 146, Nat.pow_mul 5]
  refine Nat.le_trans (Nat.pow_le_pow_right (by decide) (show f * 339 / 146 * 146 ≤ 339 * f by omega)) ?_
  rw [Nat.pow_mul]
  exact Nat.pow_le_pow_left h0 f
theorem five_high (f : Nat) : 5 ^ f ≤ 2 ^ ((f * 137 + 58) / 59) := by
  have h0 : 5 ^ 59 ≤ 2 ^ 137 := by decide +kernel
  refine (Nat.pow_le_pow_iff_left (n := 59) (by decide)).1 ?_
  rw [← Nat.pow_mul, ← Nat.pow_mul, Nat.mul_comm f 59, Nat.pow_mul 5]
  refine Nat.le_trans (Nat.pow_le_pow_left h0 f) ?_
  rw [← Nat.pow_mul]
  exact Nat.pow_le_pow_right (by decide) (by omega)
theorem five_lg {f : Nat} (h : f ≤ 5000) : 2 ^ lg5 f ≤ 2 * 5 ^ f ∧ 5 ^ f ≤ 2 ^ (lg5 f + 2) := by
  have h1 := five_low f
  have h2 := five_high f
  unfold lg5
  constructor
  · have : 2 ^ (f * 2321928095 / 1000000000) ≤ 2 ^ (f * 339 / 146 + 1) := Nat.pow_le_pow_right (by decide) (by omega)
    rw [Nat.pow_succ, Nat.mul_comm _ 2] at this
    exact Nat.le_trans this (Nat.mul_le_mul_left 2 h1)
  · exact Nat.le_trans h2 (Nat.pow_le_pow_right (by decide) (by omega))
/-- A number N times 2 to the power of t times 5 to the power of f, as a numerator and a denominator. -/
def exP (N : Nat) (t f : Int) : Nat := N * 5 ^ f.toNat * 2 ^ t.toNat
def exQ (t f : Int) : Nat := 5 ^ (-f).toNat * 2 ^ (-t).toNat
theorem exQ_pos (t f : Int) : 0 < exQ t f := Nat.mul_pos (Nat.pow_pos (by decide)) (Nat.two_pow_pos _)
/-- The size, as the code reckons it: b bits. -/
def exS (b : Nat) (t f : Int) : Int := b + t + (f * 2321928095).tdiv 1000000000
theorem lg_tdiv (f : Int) : (f * 2321928095).tdiv 1000000000 = (lg5 f.toNat : Int) - lg5 (-f).toNat := by
  unfold lg5
  rcases Int.le_total 0 f with h | h
  · rw [show (-f).toNat = 0 by omega, Int.tdiv_eq_ediv_of_nonneg (by omega)]
    omega
  · rw [show f.toNat = 0 by omega]
    have h1 : (f * 2321928095).tdiv 1000000000 = -((-(f * 2321928095)).tdiv 1000000000) := by rw [Int.neg_tdiv, Int.neg_neg]
    rw [h1, Int.tdiv_eq_ediv_of_nonneg (by omega)]
    omega
/-- Between which powers of two it lies. -/
theorem exS_bnd {N b : Nat} {t f : Int} (hN : N < 2 ^ b) (hN' : 2 ^ b ≤ 2 * N) (hf : -5000 ≤ f ∧ f ≤ 5000) (hT : -20000 ≤ t ∧ t ≤ 20000) :
    -40000 ≤ exS b t f ∧ exP N t f * 2 ^ 60000 < exQ t f * 2 ^ (60000 + exS b t f + 3).toNat ∧ exQ t f * 2 ^ (60000 + exS b t f - 4).toNat ≤ exP N t f * 2 ^ 60000 := by
  obtain ⟨T, hTe⟩ : ∃ T : Nat, T = 60000 := ⟨_, rfl⟩
  have hTi : (60000 : Int) = (T : Int) := by omega
  obtain ⟨x, hx⟩ : ∃ x, f.toNat = x := ⟨_, rfl⟩
  obtain ⟨y, hy⟩ : ∃ y, (-f).toNat = y := ⟨_, rfl⟩
  obtain ⟨u, hu⟩ : ∃ u, t.toNat = u := ⟨_, rfl⟩
  obtain ⟨v, hv⟩ : ∃ v, (-t).toNat = v := ⟨_, rfl⟩
  obtain ⟨lx1, lx2⟩ := five_lg (f := x) (by omega)
  obtain ⟨ly1, ly2⟩ := five_lg (f := y) (by omega)
  have hlg := lg_tdiv f
  rw [hx, hy] at hlg
  have hlx : lg5 x ≤ 12000 := by unfold lg5; omega
  have hly : lg5 y ≤ 12000 := by unfold lg5; omega
  have hs : exS b t f = (b : Int) + u - v + (lg5 x : Int) - lg5 y := by unfold exS; omega
  unfold exP exQ
  rw [hx, hy, hu, hv, hs, hTi, ← hTe]
  obtain ⟨X, hX⟩ : ∃ X, lg5 x = X := ⟨_, rfl⟩
  obtain ⟨Y, hY⟩ : ∃ Y, lg5 y = Y := ⟨_, rfl⟩
  rw [hX] at lx1 lx2 hlx
  rw [hY] at ly1 ly2 hly
  rw [hX, hY]
  clear hs hlg hX hY
  refine ⟨by omega, ?_, ?_⟩
  · have hpos : 0 < 2 ^ (X + 2) * 2 ^ u * 2 ^ T := Nat.mul_pos (Nat.mul_pos (Nat.two_pow_pos _) (Nat.two_pow_pos _)) (Nat.two_pow_pos _)
    have h1 : N * (5 ^ x * 2 ^ u * 2 ^ T) < 2 ^ b * (2 ^ (X + 2) * 2 ^ u * 2 ^ T) :=
      Nat.lt_of_le_of_lt (Nat.mul_le_mul_left N (Nat.mul_le_mul_right _ (Nat.mul_le_mul_right _ lx2))) (Nat.mul_lt_mul_of_pos_right hN hpos)
    have h2 : 2 ^ Y * 2 ^ v * 2 ^ ((T : Int) + ((b : Int) + u - v + X - Y) + 3).toNat ≤ 2 * 5 ^ y * 2 ^ v * 2 ^ ((T : Int) + ((b : Int) + u - v + X - Y) + 3).toNat := Nat.mul_le_mul_right _ (Nat.mul_le_mul_right _ ly1)
    rw [← Nat.pow_add, ← Nat.pow_add, ← Nat.pow_add] at h1
    rw [← Nat.pow_add, ← Nat.pow_add] at h2
    have h3 : 2 * 2 ^ (b + (X + 2 + u + T)) = 2 ^ (Y + v + ((T : Int) + ((b : Int) + u - v + X - Y) + 3).toNat) := by
      rw [Nat.mul_comm, ← Nat.pow_succ]
      congr 1
      omega
    rw [← h3, Nat.mul_assoc 2, Nat.mul_assoc 2] at h2
    have h4 := Nat.le_of_mul_le_mul_left h2 (by decide)
    have e1 : N * 5 ^ x * 2 ^ u * 2 ^ T = N * (5 ^ x * 2 ^ u * 2 ^ T) := by simp only [Nat.mul_assoc]
    rw [e1]
    exact Nat.lt_of_lt_of_le h1 h4
  · have h1 : 5 ^ y * 2 ^ v * 2 ^ ((T : Int) + ((b : Int) + u - v + X - Y) - 4).toNat ≤ 2 ^ (Y + 2) * 2 ^ v * 2 ^ ((T : Int) + ((b : Int) + u - v + X - Y) - 4).toNat := Nat.mul_le_mul_right _ (Nat.mul_le_mul_right _ ly2)
    have h2 : 2 ^ b * 2 ^ X * 2 ^ u * 2 ^ T ≤ (2 * N) * (2 * 5 ^ x) * 2 ^ u * 2 ^ T := Nat.mul_le_mul_right _ (Nat.mul_le_mul_right _ (Nat.mul_le_mul hN' lx1))
    rw [← Nat.pow_add, ← Nat.pow_add] at h1
    rw [← Nat.pow_add, ← Nat.pow_add, ← Nat.pow_add] at h2
    have h3 : 2 ^ (b + X + u + T) = 4 * 2 ^ (Y + 2 + v + ((T : Int) + ((b : Int) + u - v + X - Y) - 4).toNat) := by
      rw [show (4 : Nat) = 2 ^ 2 from rfl, ← Nat.pow_add]
      congr 1
      omega
    have h4 : (2 * N) * (2 * 5 ^ x) * 2 ^ u * 2 ^ T = 4 * (N * 5 ^ x * 2 ^ u * 2 ^ T) := by
      rw [show (4 : Nat) = 2 * 2 from rfl]
      ac_rfl
    rw [h3, h4] at h2
    exact Nat.le_trans h1 (Nat.le_of_mul_le_mul_left h2 (by decide))
/-- Far from one another: the order is told. -/
theorem exS_far {N1 N2 b1 b2 : Nat} {t1 f1 t2 f2 : Int} (h1 : N1 < 2 ^ b1) (h1' : 2 ^ b1 ≤ 2 * N1) (h2 : N2 < 2 ^ b2) (h2' : 2 ^ b2 ≤ 2 * N2) (hf1 : -5000 ≤ f1 ∧ f1 ≤ 5000) (hf2 : -5000 ≤ f2 ∧ f2 ≤ 5000) (hT1 : -20000 ≤ t1 ∧ t1 ≤ 20000) (hT2 : -20000 ≤ t2 ∧ t2 ≤ 20000)
    (hfar : 6 < exS b1 t1 f1 - exS b2 t2 f2) : exP N2 t2 f2 * exQ t1 f1 < exP N1 t1 f1 * exQ t2 f2 := by
  obtain ⟨l1, _, a2⟩ := exS_bnd h1 h1' hf1 hT1
  obtain ⟨l2, c1, _⟩ := exS_bnd h2 h2' hf2 hT2
  have q1 := exQ_pos t1 f1
  have q2 := exQ_pos t2 f2
  obtain ⟨s1, hs1⟩ : ∃ s, exS b1 t1 f1 = s := ⟨_, rfl⟩
  obtain ⟨s2, hs2⟩ : ∃ s, exS b2 t2 f2 = s := ⟨_, rfl⟩
  rw [hs1] at a2 hfar l1
  rw [hs2] at c1 hfar l2
  generalize exP N1 t1 f1 = P1 at *
  generalize exP N2 t2 f2 = P2 at *
  generalize exQ t1 f1 = Q1 at *
  generalize exQ t2 f2 = Q2 at *
  have hlt : 2 ^ (60000 + s2 + 3).toNat ≤ 2 ^ (60000 + s1 - 4).toNat := Nat.pow_le_pow_right (by decide) (by omega)
  have hT := Nat.two_pow_pos 60000
  generalize 2 ^ 60000 = T at *
  generalize 2 ^ (60000 + s2 + 3).toNat = A at *
  generalize 2 ^ (60000 + s1 - 4).toNat = B at *
  refine Nat.lt_of_mul_lt_mul_right (a := T) ?_
  calc P2 * Q1 * T = P2 * T * Q1 := by ac_rfl
    _ < Q2 * A * Q1 := Nat.mul_lt_mul_of_pos_right c1 q1
    _ ≤ Q2 * B * Q1 := Nat.mul_le_mul_right _ (Nat.mul_le_mul_left _ hlt)
    _ = Q1 * B * Q2 := by ac_rfl
    _ ≤ P1 * T * Q2 := Nat.mul_le_mul_right _ a2
    _ = P1 * Q2 * T := by ac_rfl
end Go.Cal
namespace Go.Cal
/-- Bit by bit: the greatest of those that are too small, and one more. -/
def seek (wi : Nat → Bool) (most : Nat) : Nat → Nat → Nat
  | 0, key => key
  | b + 1, key => seek wi most b (if key + 2 ^ b ≤ most ∧ wi (key + 2 ^ b - 1) = false then key + 2 ^ b else key)
theorem seek_is {wi : Nat → Bool} {most a : Nat} (hm : ∀ i j, i ≤ j → wi i = true → wi j = true) (ha : wi a = true) (hl : ∀ i, i < a → wi i = false) (hle : a ≤ most) : ∀ (b key : Nat), key ≤ a → a < key + 2 ^ b → seek wi most b key = a
  | 0, key, h1, h2 => by
    unfold seek
    simp at h2
    omega
  | b + 1, key, h1, h2 => by
    have hp := Nat.two_pow_pos b
    rw [Nat.pow_succ] at h2
    unfold seek
    by_cases h : key + 2 ^ b ≤ most ∧ wi (key + 2 ^ b - 1) = false
    · rw [if_pos h]
      have : key + 2 ^ b ≤ a := by
        rcases Nat.lt_or_ge a (key + 2 ^ b) with h3 | h3
        · have := hm a (key + 2 ^ b - 1) (by omega) ha
          rw [h.2] at this
          cases this
        · exact h3
      exact seek_is hm ha hl hle b _ this (by omega)
    · rw [if_neg h]
      refine seek_is hm ha hl hle b _ h1 ?_
      rcases Nat.lt_or_ge a (key + 2 ^ b) with h3 | h3
      · exact h3
      · exact absurd ⟨by omega, hl _ (by omega)⟩ h
theorem seek_le {wi : Nat → Bool} {most : Nat} : ∀ (b key : Nat), key ≤ most → seek wi most b key ≤ most
  | 0, key, h => h
  | b + 1, key, h => by
    unfold seek
    split
    · rename_i h2; exact seek_le b _ h2.1
    · exact seek_le b _ h
def sc2 : Nat := 2 ^ 2000
/-- Is a size p / q to be rounded to a magnitude, or a lesser one? -/
def wiN (kd wd mn bs p q key : Nat) : Bool := decide (p * sc2 < uN kd wd mn bs (2 * key + 1) * q) || (decide (p * sc2 = uN kd wd mn bs (2 * key + 1) * q) && key % 2 == 0)
theorem wiN_mono {kd wd mn bs p q i j : Nat} (hq : 0 < q) (hw : kd = 1 → 1 ≤ wd ∧ wd ≤ 300 ∧ 2 * j + 1 < 2 ^ wd) (hb : bs ≤ 1900) (h : i ≤ j) (hi : wiN kd wd mn bs p q i = true) : wiN kd wd mn bs p q j = true := by
  rcases Nat.eq_or_lt_of_le h with rfl | h
  · exact hi
  · have hm : uN kd wd mn bs (2 * i + 1) * q < uN kd wd mn bs (2 * j + 1) * q := Nat.mul_lt_mul_of_pos_right (uN_mono hw hb (by omega)) hq
    unfold wiN at hi ⊢
    simp only [Bool.or_eq_true, Bool.and_eq_true, decide_eq_true_eq] at hi ⊢
    rcases hi with hi | hi
    · exact .inl (Nat.lt_trans hi hm)
    · exact .inl (by rw [hi.1]; exact hm)
end Go.Cal
namespace Go.Cal
/-- One row of the table, by its number. -/
def fK (id : Int) : Int := match id with | 1 => 1 | 2 => 1 | 3 => 1 | 4 => 1 | 10 => 3 | 11 => 4 | _ => 2
def fW (id : Int) : Int := match id with | 2 => 16 | 3 => 32 | 4 => 64 | 7 => 6 | 8 => 6 | 9 => 4 | 12 => 16 | 13 => 32 | 14 => 64 | _ => 8
def fM (id : Int) : Int := match id with | 5 => 3 | 6 => 2 | 7 => 2 | 8 => 3 | 9 => 1 | 10 => 6 | 12 => 10 | 13 => 23 | 14 => 52 | _ => 0
def fB (id : Int) : Int := match id with | 5 => 7 | 6 => 15 | 7 => 3 | 8 => 1 | 9 => 1 | 11 => 127 | 12 => 15 | 13 => 127 | 14 => 1023 | _ => 0
def fT (id : Int) : Int := match id with | 1 => 127 | 2 => 32767 | 3 => 2147483647 | 4 => 9223372036854775807 | 5 => 126 | 6 => 123 | 7 => 31 | 8 => 31 | 9 => 7 | 10 => 127 | 11 => 254 | 12 => 31743 | 13 => 2139095039 | _ => 9218868437227405311
def fI (id : Int) : Int := match id with | 6 => 124 | 12 => 31744 | 13 => 2139095040 | 14 => 9218868437227405312 | _ => 0
def fN (id : Int) : Int := match id with | 1 => 128 | 2 => 32768 | 3 => 2147483648 | 4 => 9223372036854775808 | 5 => 127 | 6 => 126 | 11 => 255 | 12 => 32256 | 13 => 2143289344 | 14 => 9221120237041090560 | _ => 0
theorem id_cases {id : Int} (h1 : 1 ≤ id) (h2 : id < 15) : id = 1 ∨ id = 2 ∨ id = 3 ∨ id = 4 ∨ id = 5 ∨ id = 6 ∨ id = 7 ∨ id = 8 ∨ id = 9 ∨ id = 10 ∨ id = 11 ∨ id = 12 ∨ id = 13 ∨ id = 14 := by omega

theorem ft_bounds (id : Int) : 0 ≤ fW id ∧ fW id ≤ 64 ∧ 4 ≤ fW id ∧ 0 < fT id ∧ 0 ≤ fI id ∧ 0 ≤ fN id ∧ fT id < 18446744073709551616 ∧ fI id < 18446744073709551616 ∧ fN id < 18446744073709551616 := by
  unfold fW fT fI fN
  refine ⟨?_, ?_, ?_, ?_, ?_, ?_, ?_, ?_, ?_⟩ <;> (split <;> omega)
/-- What Fits tells. -/
def fitsV (id p : Int) : Int := if id < 1 ∨ 15 ≤ id then 3 else if p < 2 ^ (fW id).toNat then 0 else 1
/-- Is a pattern a number, or infinite? -/
def isnB (id p : Int) : Bool := if fK id = 2 then decide (p % 2 ^ ((fW id).toNat - 1) ≤ fT id) || (p % 2 ^ ((fW id).toNat - 1) == fI id) else (fN id == 0) || p != fN id
/-- What Canon tells. -/
def canonV (id p : Int) : Int := if fitsV id p = 0 then (if isnB id p = true then p else fN id) else 0
theorem fitsV_zero {id p : Int} (h : fitsV id p = 0) : 1 ≤ id ∧ id < 15 ∧ p < 2 ^ (fW id).toNat := by
  unfold fitsV at h
  split at h
  · omega
  · split at h
    · exact ⟨by omega, by omega, by assumption⟩
    · omega
def sgV (id : Int) : Int := if fK id = 4 then 0 else 2 ^ ((fW id).toNat - 1)
/-- What is wrong with a form and a sign; the greatest magnitude. -/
def mostE (id : Int) (neg : Bool) : Int := if id < 1 ∨ 15 ≤ id then 3 else if neg = true ∧ fK id = 4 then 5 else 0
def mostV (id : Int) (neg : Bool) : Int := if neg = true ∧ fK id = 3 then fT id + 1 else fT id
/-- The pattern of a sign and a magnitude. -/
def patV (id : Int) (neg : Bool) (key : Int) : Int := if neg = false then key else if fK id = 2 then key + 2 ^ ((fW id).toNat - 1) else (-key) % 2 ^ (fW id).toNat
/-- A pattern's sign and magnitude; its class. -/
def partN (id p : Int) : Bool := decide (fK id ≠ 4 ∧ 2 ^ ((fW id).toNat - 1) ≤ p)
def partK (id p : Int) : Int := if partN id p = false then p else if fK id = 2 then p - 2 ^ ((fW id).toNat - 1) else (-p) % 2 ^ (fW id).toNat
def classV (id p : Int) : Int := if fK id = 2 ∧ partK id p = fI id ∧ fI id ≠ 0 then 3 else if (fK id = 2 ∧ fT id < partK id p) ∨ (fK id ≠ 2 ∧ fN id ≠ 0 ∧ p = fN id) then 4 else if partK id p = 0 ∧ fK id ≠ 4 then 1 else 2
theorem mostE_zero {id : Int} {neg : Bool} (h : mostE id neg = 0) : 1 ≤ id ∧ id < 15 ∧ (neg = true → fK id ≠ 4) := by
  unfold mostE at h
  split at h
  · omega
  · split at h
    · omega
    · rename_i h1 h2
      exact ⟨by omega, by omega, fun hn hk => h2 ⟨hn, hk⟩⟩
theorem mostV_bnd (id : Int) (neg : Bool) : 0 < mostV id neg ∧ mostV id neg < 18446744073709551616 := by
  unfold mostV fT
  split <;> (split <;> first | omega | (rename_i h; revert h; simp [fK]))
theorem pat_key {id key : Int} {neg : Bool} (he : mostE id neg = 0) (h0 : 0 ≤ key) (h1 : key ≤ mostV id neg) : partK id (patV id neg key) = key := by
  obtain ⟨i1, i2, i3⟩ := mostE_zero he
  rcases id_cases i1 i2 with rfl | rfl | rfl | rfl | rfl | rfl | rfl | rfl | rfl | rfl | rfl | rfl | rfl | rfl <;> cases neg <;> simp [partK, partN, patV, mostV, fK, fW, fT] at h1 i3 ⊢ <;> (try split) <;> omega
/-- What becomes of a number that is too large. -/
def largeV (id mode : Int) (neg : Bool) : Int :=
  if mode = 1 ∨ fK id = 1 ∨ (fI id = 0 ∧ fN id = 0) then patV id neg (mostV id neg)
  else if fI id = 0 then fN id else if neg = true then fI id + 2 ^ ((fW id).toNat - 1) else fI id
end Go.Cal
namespace Go.Cal
theorem tzN_ctz : ∀ f m, Lib.ctzFrom f m = tzN f m
  | 0, _ => rfl
  | f + 1, m => by
    unfold Lib.ctzFrom tzN
    by_cases h : m % 2 = 1
    · rw [if_pos h, if_neg (by omega)]
    · rw [if_neg h, if_pos (by omega), tzN_ctz f (m / 2), Nat.add_comm]
theorem ctz_tz {m : Nat} (h : 0 < m) : Lib.ctz 64 m = tzN 64 m := by
  unfold Lib.ctz
  rw [if_neg (by omega), tzN_ctz]
theorem tzN_lt : ∀ (f m : Nat), 0 < m → m < 2 ^ f → tzN f m < f
  | 0, m, h0, h => by simp at h; omega
  | f + 1, m, h0, h => by
    unfold tzN
    split
    · have := tzN_lt f (m / 2) (by omega) (by rw [Nat.pow_succ] at h; omega)
      omega
    · omega
/-- The run of a key, as the code finds it: low keys, high ones. -/
theorem split_low {n key : Nat} (h0 : 0 < key) (h : key < 2 ^ (n - 1)) (hn : 2 ≤ n) : 0 < n - bl key ∧ poR n key = -((n - bl key : Nat) : Int) ∧ poL n key = n - (n - bl key) - 1 ∧ n - bl key ≤ n := by
  have h1 := bl_pos h0
  have h2 : bl key ≤ n - 1 := bl_iff.2 h
  unfold poR poL
  rw [if_pos h, if_pos h]
  omega
theorem split_high {n key : Nat} (h : key < 2 ^ n) (hg : 2 ^ (n - 1) ≤ key) (hn : 2 ≤ n) : n - bl key = 0 ∧ 0 < n - bl (2 ^ n - 1 - key) ∧ poR n key = ((n - bl (2 ^ n - 1 - key) : Nat) : Int) - 1 ∧ poL n key = n - (n - bl (2 ^ n - 1 - key)) - 1 ∧ n - bl (2 ^ n - 1 - key) ≤ n := by
  have h1 : n - 1 < bl key := by
    rcases Nat.lt_or_ge (n - 1) (bl key) with h2 | h2
    · exact h2
    · have := bl_iff.1 h2
      omega
  have h3 : bl (2 ^ n - 1 - key) ≤ n - 1 := by
    refine bl_iff.2 ?_
    have : 2 ^ n = 2 * 2 ^ (n - 1) := by rw [← Nat.pow_succ', Nat.succ_eq_add_one, show n - 1 + 1 = n by omega]
    omega
  unfold poR poL
  rw [if_neg (by omega), if_neg (by omega)]
  omega
/-- The same, otherwise reckoned. -/
theorem exP_cross (N : Nat) (t f t' f' : Int) : exP N t f * exQ t' f' = exP N (t - t') (f - f') * (5 ^ (f.toNat + (-f').toNat - (f - f').toNat) * 2 ^ (t.toNat + (-t').toNat - (t - t').toNat)) := by
  unfold exP exQ
  have h1 : f.toNat + (-f').toNat = (f - f').toNat + (f.toNat + (-f').toNat - (f - f').toNat) := by omega
  have h2 : t.toNat + (-t').toNat = (t - t').toNat + (t.toNat + (-t').toNat - (t - t').toNat) := by omega
  have e1 : 5 ^ f.toNat * 5 ^ (-f').toNat = 5 ^ (f - f').toNat * 5 ^ (f.toNat + (-f').toNat - (f - f').toNat) := by rw [← Nat.pow_add, ← Nat.pow_add, ← h1]
  have e2 : 2 ^ t.toNat * 2 ^ (-t').toNat = 2 ^ (t - t').toNat * 2 ^ (t.toNat + (-t').toNat - (t - t').toNat) := by rw [← Nat.pow_add, ← Nat.pow_add, ← h2]
  calc N * 5 ^ f.toNat * 2 ^ t.toNat * (5 ^ (-f').toNat * 2 ^ (-t').toNat) = N * (5 ^ f.toNat * 5 ^ (-f').toNat) * (2 ^ t.toNat * 2 ^ (-t').toNat) := by ac_rfl
    _ = _ := by rw [e1, e2]; ac_rfl
theorem cmpV_scale {x y c : Nat} (h : 0 < c) : cmpV ((x * c : Nat) : Int) ((y * c : Nat) : Int) = cmpV (x : Int) (y : Int) := by
  rcases Nat.lt_trichotomy x y with h1 | h1 | h1
  · rw [cmpV_lt (by exact_mod_cast Nat.mul_lt_mul_of_pos_right h1 h), cmpV_lt (by exact_mod_cast h1)]
  · rw [h1, cmpV_eq rfl, cmpV_eq rfl]
  · rw [cmpV_gt (by exact_mod_cast Nat.mul_lt_mul_of_pos_right h1 h), cmpV_gt (by exact_mod_cast h1)]
/-- The order of two numbers: by cross products. -/
def exC (N1 : Nat) (t1 f1 : Int) (N2 : Nat) (t2 f2 : Int) : Int := cmpV ((exP N1 t1 f1 * exQ t2 f2 : Nat) : Int) ((exP N2 t2 f2 * exQ t1 f1 : Nat) : Int)
theorem exC_scaled (N1 : Nat) (t1 f1 : Int) (N2 : Nat) (t2 f2 : Int) : cmpV ((exP N1 (t1 - t2) (f1 - f2) : Nat) : Int) ((exP N2 (t2 - t1) (f2 - f1) : Nat) : Int) = exC N1 t1 f1 N2 t2 f2 := by
  unfold exC
  rw [exP_cross, exP_cross N2, show f2.toNat + (-f1).toNat - (f2 - f1).toNat = f1.toNat + (-f2).toNat - (f1 - f2).toNat by omega, show t2.toNat + (-t1).toNat - (t2 - t1).toNat = t1.toNat + (-t2).toNat - (t1 - t2).toNat by omega]
  exact (cmpV_scale (Nat.mul_pos (Nat.pow_pos (by decide)) (Nat.two_pow_pos _))).symm
theorem exP_zero (t f : Int) : exP 0 t f = 0 := by unfold exP; simp
theorem exP_pos {N : Nat} (t f : Int) (h : 0 < N) : 0 < exP N t f := Nat.mul_pos (Nat.mul_pos h (Nat.pow_pos (by decide))) (Nat.two_pow_pos _)
theorem exC_zero_l {N2 : Nat} {t1 f1 t2 f2 : Int} : exC 0 t1 f1 N2 t2 f2 = cmpV 0 (N2 : Int) := by
  unfold exC
  rw [exP_zero, Nat.zero_mul]
  rcases Nat.eq_zero_or_pos N2 with h | h
  · subst h; rw [exP_zero, Nat.zero_mul]; rfl
  · have h2 := Nat.mul_pos (exP_pos t2 f2 h) (exQ_pos t1 f1)
    rw [cmpV_lt (a := 0) (b := (N2 : Int)) (by omega), cmpV_lt (by omega)]
theorem exC_zero_r {N1 : Nat} {t1 f1 t2 f2 : Int} : exC N1 t1 f1 0 t2 f2 = cmpV (N1 : Int) 0 := by
  unfold exC
  rw [exP_zero, Nat.zero_mul]
  rcases Nat.eq_zero_or_pos N1 with h | h
  · subst h; rw [exP_zero, Nat.zero_mul]; rfl
  · have h2 := Nat.mul_pos (exP_pos t1 f1 h) (exQ_pos t2 f2)
    rw [cmpV_gt (a := (N1 : Int)) (b := 0) (by omega), cmpV_gt (by omega)]
/-- A size against a boundary: is it to be rounded down? -/
theorem exC_wi {kd wd mn bs key N m : Nat} {t f e : Int} (he : 0 ≤ (2000 : Int) + e) (hm : m * 2 ^ ((2000 : Int) + e).toNat = uN kd wd mn bs (2 * key + 1)) :
    ((exC N t f m e 0 < 0) ↔ exP N t f * sc2 < uN kd wd mn bs (2 * key + 1) * exQ t f) ∧ ((exC N t f m e 0 = 0) ↔ exP N t f * sc2 = uN kd wd mn bs (2 * key + 1) * exQ t f) := by
  have e1 : exP m e 0 = m * 2 ^ e.toNat := by unfold exP; simp
  have e2 : exQ e 0 = 2 ^ (-e).toNat := by unfold exQ; simp
  have h0 : 2000 = (-e).toNat + (2000 - (-e).toNat) := by omega
  have h1 : ((2000 : Int) + e).toNat = e.toNat + (2000 - (-e).toNat) := by omega
  generalize hc : 2000 - (-e).toNat = c at h0 h1
  have hs : sc2 = 2 ^ (-e).toNat * 2 ^ c := by unfold sc2; rw [← Nat.pow_add, ← h0]
  rw [← hm, h1, hs, Nat.pow_add]
  unfold exC
  rw [e1, e2]
  have l1 : exP N t f * (2 ^ (-e).toNat * 2 ^ c) = exP N t f * 2 ^ (-e).toNat * 2 ^ c := by ac_rfl
  have l2 : m * (2 ^ e.toNat * 2 ^ c) * exQ t f = m * 2 ^ e.toNat * exQ t f * 2 ^ c := by ac_rfl
  rw [l1, l2]
  have hp := Nat.two_pow_pos c
  generalize exP N t f * 2 ^ (-e).toNat = X
  generalize m * 2 ^ e.toNat * exQ t f = Y
  generalize 2 ^ c = C at hp
  have hlt : X * C < Y * C ↔ X < Y := ⟨fun h => Nat.lt_of_mul_lt_mul_right h, fun h => Nat.mul_lt_mul_of_pos_right h hp⟩
  have heq : X * C = Y * C ↔ X = Y := ⟨fun h => Nat.eq_of_mul_eq_mul_right hp h, fun h => by rw [h]⟩
  rw [hlt, heq]
  rcases cmpV_cases (X : Int) (Y : Int) with ⟨h, hv⟩ | ⟨h, hv⟩ | ⟨h, hv⟩ <;> rw [hv] <;> constructor <;> constructor <;> intro h' <;> omega
/-- Far from one another. -/
theorem exC_far_gt {N1 N2 b1 b2 : Nat} {t1 f1 t2 f2 : Int} (h1 : N1 < 2 ^ b1) (h1' : 2 ^ b1 ≤ 2 * N1) (h2 : N2 < 2 ^ b2) (h2' : 2 ^ b2 ≤ 2 * N2) (hf1 : -5000 ≤ f1 ∧ f1 ≤ 5000) (hf2 : -5000 ≤ f2 ∧ f2 ≤ 5000) (hT1 : -20000 ≤ t1 ∧ t1 ≤ 20000) (hT2 : -20000 ≤ t2 ∧ t2 ≤ 20000)
    (hfar : 6 < exS b1 t1 f1 - exS b2 t2 f2) : exC N1 t1 f1 N2 t2 f2 = 1 := by
  unfold exC
  exact cmpV_gt (by exact_mod_cast exS_far h1 h1' h2 h2' hf1 hf2 hT1 hT2 hfar)
theorem exC_far_lt {N1 N2 b1 b2 : Nat} {t1 f1 t2 f2 : Int} (h1 : N1 < 2 ^ b1) (h1' : 2 ^ b1 ≤ 2 * N1) (h2 : N2 < 2 ^ b2) (h2' : 2 ^ b2 ≤ 2 * N2) (hf1 : -5000 ≤ f1 ∧ f1 ≤ 5000) (hf2 : -5000 ≤ f2 ∧ f2 ≤ 5000) (hT1 : -20000 ≤ t1 ∧ t1 ≤ 20000) (hT2 : -20000 ≤ t2 ∧ t2 ≤ 20000)
    (hfar : exS b1 t1 f1 - exS b2 t2 f2 < -6) : exC N1 t1 f1 N2 t2 f2 = -1 := by
  unfold exC
  exact cmpV_lt (by exact_mod_cast exS_far h2 h2' h1 h1' hf2 hf1 hT2 hT1 (by omega))
/-- A magnitude's number with so many bits more, made odd. -/
def magV (id : Int) (more key : Nat) : Nat × Int := oddP 64 (numQ (fK id).toNat (fW id).toNat (fM id).toNat (fB id).toNat more key).1 (numQ (fK id).toNat (fW id).toNat (fM id).toNat (fB id).toNat more key).2
theorem oddP_odd (f m : Nat) (e : Int) (h : m % 2 = 1) : oddP f m e = (m, e) := by
  unfold oddP
  rw [if_neg (by omega)]
  have : tzN f m = 0 := by
    cases f with
    | zero => rfl
    | succ f => unfold tzN; rw [if_neg (by omega)]
  rw [this]; simp
theorem miM_zero (man : Nat) : miM man 0 = 0 := by unfold miM; simp
theorem miM_pos {man key : Nat} (h : 0 < key) : 0 < miM man key := by
  unfold miM
  split
  · rename_i h1
    have h2 := Nat.mod_add_div key (2 ^ man)
    rw [h1] at h2
    omega
  · have := Nat.two_pow_pos man
    omega
theorem miM_lt (man key : Nat) : miM man key < 2 ^ (man + 1) := by
  have h1 := Nat.mod_lt key (Nat.two_pow_pos man)
  unfold miM
  rw [Nat.pow_succ]
  split <;> omega
end Go.Cal
namespace Go.Cal
/-- Where a row of digits ends. -/
theorem span_split (t : List UInt8) : t.takeWhile isDig ++ t.dropWhile isDig = t := List.takeWhile_append_dropWhile
theorem take_digs (t : List UInt8) : ∀ c ∈ t.takeWhile isDig, isDig c = true := fun c hc => by
  induction t with
  | nil => simp at hc
  | cons x t ih =>
    by_cases h : isDig x = true
    · rw [List.takeWhile_cons_of_pos h] at hc
      rcases List.mem_cons.1 hc with rfl | hc
      · exact h
      · exact ih hc
    · rw [List.takeWhile_cons_of_neg h] at hc
      simp at hc
theorem drop_head (t : List UInt8) {c : UInt8} {r : List UInt8} (h : t.dropWhile isDig = c :: r) : isDig c = false := by
  induction t with
  | nil => simp at h
  | cons x t ih =>
    by_cases hx : isDig x = true
    · rw [List.dropWhile_cons_of_pos hx] at h; exact ih h
    · rw [List.dropWhile_cons_of_neg hx] at h
      injection h with h1 h2
      subst h1
      simpa using hx
/-- Behind an e, and its sign: the digits; how far it goes on. -/
def expN (t : List UInt8) : Bool × Nat := (!(t.takeWhile isDig).isEmpty && (t.dropWhile isDig).isEmpty, (t.takeWhile isDig).length)
/-- Behind an e. -/
def expE (t : List UInt8) : Bool × Nat :=
  match t with
  | [] => (false, 0)
  | c :: r => if c = 43 ∨ c = 45 then ((expN r).1, (expN r).2 + 1) else expN t
theorem expE_cons (c : UInt8) (r : List UInt8) : expE (c :: r) = if c = 43 ∨ c = 45 then ((expN r).1, (expN r).2 + 1) else expN (c :: r) := rfl
/-- Behind the digits. -/
def expS (t : List UInt8) : Bool × Nat :=
  match t with
  | [] => (true, 0)
  | c :: r => if c = 101 ∨ c = 69 then ((expE r).1, (expE r).2 + 1) else (false, 0)
theorem expS_cons (c : UInt8) (r : List UInt8) : expS (c :: r) = if c = 101 ∨ c = 69 then ((expE r).1, (expE r).2 + 1) else (false, 0) := rfl
/-- A number without a sign: is it one; how far it goes on. -/
def numS (t : List UInt8) : Bool × Nat :=
  match t.dropWhile isDig with
  | 46 :: r =>
    if (t.takeWhile isDig).isEmpty && (r.takeWhile isDig).isEmpty then (false, 1)
    else ((expS (r.dropWhile isDig)).1, (t.takeWhile isDig).length + 1 + (r.takeWhile isDig).length + (expS (r.dropWhile isDig)).2)
  | r => if (t.takeWhile isDig).isEmpty then (false, 0) else ((expS r).1, (t.takeWhile isDig).length + (expS r).2)
theorem not_dig {c : UInt8} (h : isDig c = true) : c ≠ 45 ∧ c ≠ 105 ∧ c ≠ 110 ∧ c ≠ 78 ∧ c ≠ 46 ∧ c ≠ 101 ∧ c ≠ 69 ∧ c ≠ 43 ∧ c ≠ 97 ∧ c ≠ 102 ∧ c ≠ 82 := by
  refine ⟨?_, ?_, ?_, ?_, ?_, ?_, ?_, ?_, ?_, ?_, ?_⟩ <;> (rintro rfl; exact absurd h (by decide))
end Go.Cal
namespace Go.Cal
/-- How far two rows go together. -/
def lcp : List UInt8 → List UInt8 → Nat
  | x :: xs, y :: ys => if x = y then lcp xs ys + 1 else 0
  | _, _ => 0
theorem lcp_le_left : ∀ (t w : List UInt8), lcp t w ≤ t.length
  | [], _ => by simp [lcp]
  | _ :: _, [] => by simp [lcp]
  | x :: xs, y :: ys => by
    unfold lcp
    split
    · have := lcp_le_left xs ys
      simp; omega
    · simp
theorem lcp_le_right : ∀ (t w : List UInt8), lcp t w ≤ w.length
  | [], _ => by simp [lcp]
  | _ :: _, [] => by simp [lcp]
  | x :: xs, y :: ys => by
    unfold lcp
    split
    · have := lcp_le_right xs ys
      simp; omega
    · simp
theorem lcp_nil (t : List UInt8) : lcp t [] = 0 := by cases t <;> rfl
theorem lcp_same : ∀ (t w : List UInt8) (n : Nat), n < lcp t w → t.getD n 0 = w.getD n 0
  | [], _, n, h => by simp [lcp] at h
  | _ :: _, [], n, h => by simp [lcp] at h
  | x :: xs, y :: ys, n, h => by
    unfold lcp at h
    split at h
    · rename_i e
      subst e
      match n with
      | 0 => rfl
      | n + 1 =>
        have := lcp_same xs ys n (by omega)
        simpa using this
    · omega
theorem lcp_stop : ∀ (t w : List UInt8), lcp t w < w.length → lcp t w < t.length → t.getD (lcp t w) 0 ≠ w.getD (lcp t w) 0
  | [], _, _, h => by simp at h
  | _ :: _, [], h, _ => by simp at h
  | x :: xs, y :: ys, h1, h2 => by
    unfold lcp at h1 h2 ⊢
    split
    · rename_i e
      rw [if_pos e] at h1 h2
      have := lcp_stop xs ys (by simpa using h1) (by simpa using h2)
      simpa using this
    · rename_i e
      simpa using e
theorem lcp_all : ∀ (t w : List UInt8), lcp t w = w.length → t.length = w.length → t = w
  | [], [], _, _ => rfl
  | [], _ :: _, _, h => by simp at h
  | _ :: _, [], _, h => by simp at h
  | x :: xs, y :: ys, h1, h2 => by
    unfold lcp at h1
    split at h1
    · rename_i e
      subst e
      rw [lcp_all xs ys (by simpa using h1) (by simpa using h2)]
    · simp at h1
theorem lcp_self : ∀ (w : List UInt8), lcp w w = w.length
  | [] => rfl
  | x :: xs => by simp [lcp, lcp_self xs]
/-- The five words of the program's row. -/
def wINF : List UInt8 := [105, 110, 102]
def wNAN : List UInt8 := [110, 97, 110]
def wNAR : List UInt8 := [78, 97, 82]
/-- Which word a text is: 2, 3, 4; 0: none. -/
def wordK (t : List UInt8) : Nat := if t = wINF then 2 else if t = wNAN then 3 else if t = wNAR then 4 else 0
/-- How far it goes on as one. -/
def wordN (t : List UInt8) : Nat := max (lcp t wINF) (max (lcp t wNAN) (lcp t wNAR))
/-- A text behind its sign: is it one; how far it goes on. -/
def bodyS (t : List UInt8) : Bool × Nat := if wordK t ≠ 0 then (true, 3) else ((numS t).1, max (wordN t) (numS t).2)
theorem numS_other {c : UInt8} {r : List UInt8} (hd : isDig c = false) (hp : c ≠ 46) : numS (c :: r) = (false, 0) := by
  have h1 : (c :: r).takeWhile isDig = [] := List.takeWhile_cons_of_neg (by simp [hd])
  have h2 : (c :: r).dropWhile isDig = c :: r := List.dropWhile_cons_of_neg (by simp [hd])
  unfold numS
  rw [h2]
  split
  · rename_i r' heq
    injection heq with e1 e2
    exact absurd e1 hp
  · simp [h1]
/-- A whole text: is it one; where it goes wrong. -/
def textS (l : List UInt8) : Bool × Nat :=
  match l with
  | 45 :: t => ((bodyS t).1, (bodyS t).2 + 1)
  | t => bodyS t
end Go.Cal
namespace Go.Cal
/-- The digits of a number without a sign, as they stand. -/
def numD (t : List UInt8) : List UInt8 :=
  match t.dropWhile isDig with
  | 46 :: r => t.takeWhile isDig ++ r.takeWhile isDig
  | _ => t.takeWhile isDig
/-- How many of them are behind the point. -/
def numB (t : List UInt8) : Nat :=
  match t.dropWhile isDig with
  | 46 :: r => (r.takeWhile isDig).length
  | _ => 0
/-- What is behind the digits. -/
def numR (t : List UInt8) : List UInt8 :=
  match t.dropWhile isDig with
  | 46 :: r => r.dropWhile isDig
  | r => r
/-- The exponent: what is behind the e, C at most. -/
def expM (C : Nat) (t : List UInt8) : Nat := min (numV (t.takeWhile isDig)) C
def expV (C : Nat) (t : List UInt8) : Int :=
  match t with
  | [] => 0
  | _ :: [] => 0
  | _ :: c :: r => if c = 45 then -(expM C r : Int) else if c = 43 then (expM C r : Int) else (expM C (c :: r) : Int)
theorem numD_digs (t : List UInt8) : ∀ c ∈ numD t, isDig c = true := by
  unfold numD
  split
  · intro c hc
    rcases List.mem_append.1 hc with hc | hc
    · exact take_digs _ c hc
    · exact take_digs _ c hc
  · exact take_digs _
/-- Without noughts at the ends. -/
def trL (l : List UInt8) : List UInt8 := l.dropWhile (· == 48)
def trR (l : List UInt8) : List UInt8 := (l.reverse.dropWhile (· == 48)).reverse
theorem trL_suffix (l : List UInt8) : trL l <:+ l := List.dropWhile_suffix _
theorem trR_prefix (l : List UInt8) : trR l <+: l := by
  unfold trR
  have := List.dropWhile_suffix (l := l.reverse) (· == 48)
  rw [← List.reverse_prefix] at this
  simpa using this
theorem trL_head (l : List UInt8) : (trL l).head? ≠ some 48 := by
  unfold trL
  intro h
  have := List.head?_dropWhile_not (· == (48 : UInt8)) l
  rw [h] at this
  simp at this
/-- What a text is. -/
structure Item where
  kind : Nat
  neg : Bool
  d : Nat
  k : Int
  big : Int
  cut : Bool
/-- A number of digits, times a power. -/
def itemV (neg : Bool) (digits : List UInt8) (k : Int) : Item :=
  let a := trL digits
  let b := trR a
  let k1 := k + ((a.length : Int) - (b.length : Int))
  if b = [] then ⟨1, neg, 0, 0, 0, false⟩
  else if 1000 ≤ (b.length : Int) + k1 - 1 then ⟨1, neg, 0, 0, 1, false⟩
  else if (b.length : Int) + k1 - 1 < -1000 then ⟨1, neg, 0, 0, -1, false⟩
  else if 1990 < b.length then ⟨1, neg, numV (b.take 1990 ++ [49]), k1 + ((b.length : Int) - 1991), 0, true⟩
  else ⟨1, neg, numV b, k1, 0, false⟩
/-- What stands behind the sign is. -/
def bodyV (C : Nat) (neg : Bool) (t : List UInt8) : Item :=
  if wordK t ≠ 0 then ⟨wordK t, neg, 0, 0, 0, false⟩ else itemV neg (numD t) (expV C (numR t) - (numB t : Int))
def textV (C : Nat) (l : List UInt8) : Item :=
  match l with
  | 45 :: t => bodyV C true t
  | t => bodyV C false t
end Go.Cal
namespace Go.Cal
/-- A row of bytes that begins with no digit. -/
def NoDig (r : List UInt8) : Prop := ∀ c s, r = c :: s → isDig c = false
theorem NoDig.nil : NoDig [] := fun c s e => by cases e
theorem NoDig.cons {c : UInt8} {r : List UInt8} (h : isDig c = false) : NoDig (c :: r) := fun c' s e => by injection e with e1 e2; subst e1; exact h
theorem span_app {d r : List UInt8} (hd : ∀ c ∈ d, isDig c = true) (hr : NoDig r) : (d ++ r).takeWhile isDig = d ∧ (d ++ r).dropWhile isDig = r := by
  induction d with
  | nil =>
    match r with
    | [] => exact ⟨rfl, rfl⟩
    | c :: s => exact ⟨List.takeWhile_cons_of_neg (by simp [hr c s rfl]), List.dropWhile_cons_of_neg (by simp [hr c s rfl])⟩
  | cons x d ih =>
    have hx := hd x (by simp)
    obtain ⟨h1, h2⟩ := ih (fun c hc => hd c (by simp [hc]))
    exact ⟨by rw [List.cons_append, List.takeWhile_cons_of_pos hx, h1], by rw [List.cons_append, List.dropWhile_cons_of_pos hx, h2]⟩
theorem dig_app {a b : List UInt8} (ha : ∀ c ∈ a, isDig c = true) (hb : ∀ c ∈ b, isDig c = true) : ∀ c ∈ a ++ b, isDig c = true := fun c hc => by
  rcases List.mem_append.1 hc with h | h
  · exact ha c h
  · exact hb c h
theorem dig_zero (m : Nat) : ∀ c ∈ List.replicate m (48 : UInt8), isDig c = true := fun c hc => by
  rw [List.eq_of_mem_replicate hc]; decide
/-- What is behind the digits: nothing, or an exponent. -/
structure ExpT (r : List UInt8) : Prop where
  ok : (expS r).1 = true
  head : ∀ c s, r = c :: s → c = 101 ∨ c = 69
theorem ExpT.noDig {r : List UInt8} (h : ExpT r) : NoDig r := fun c s e => by rcases h.head c s e with rfl | rfl <;> decide
theorem ExpT.nil : ExpT [] := ⟨rfl, fun c s e => by cases e⟩
theorem expN_digs {d : List UInt8} (hd : ∀ c ∈ d, isDig c = true) (h0 : d ≠ []) : (expN d).1 = true := by
  obtain ⟨h1, h2⟩ := span_app (r := []) hd .nil
  rw [List.append_nil] at h1 h2
  unfold expN
  rw [h1, h2]
  simpa using h0
/-- An exponent without a sign, with a plus, with a minus. -/
theorem ExpT.plain {e : UInt8} (he : e = 101 ∨ e = 69) {d : List UInt8} (hd : ∀ c ∈ d, isDig c = true) (h0 : d ≠ []) : ExpT (e :: d) := by
  refine ⟨?_, fun c s h => by injection h with h1 h2; subst h1; exact he⟩
  rw [expS_cons, if_pos he]
  show (expE d).1 = true
  match d, h0 with
  | x :: d, _ =>
    have hx := not_dig (hd x (by simp))
    rw [expE_cons, if_neg (by rintro (rfl | rfl); exact hx.2.2.2.2.2.2.2.1 rfl; exact hx.1 rfl)]
    exact expN_digs hd (by simp)
theorem ExpT.sign {e s : UInt8} (he : e = 101 ∨ e = 69) (hs : s = 43 ∨ s = 45) {d : List UInt8} (hd : ∀ c ∈ d, isDig c = true) (h0 : d ≠ []) : ExpT (e :: s :: d) := by
  refine ⟨?_, fun c s h => by injection h with h1 h2; subst h1; exact he⟩
  rw [expS_cons, if_pos he]
  show (expE (s :: d)).1 = true
  rw [expE_cons, if_pos hs]
  exact expN_digs hd h0
theorem take_all {d : List UInt8} (hd : ∀ c ∈ d, isDig c = true) : d.takeWhile isDig = d := by
  have := (span_app (r := []) hd .nil).1
  rwa [List.append_nil] at this
theorem expV_cons (C : Nat) (e c : UInt8) (r : List UInt8) : expV C (e :: c :: r) = if c = 45 then -(expM C r : Int) else if c = 43 then (expM C r : Int) else (expM C (c :: r) : Int) := rfl
theorem expV_plain {C : Nat} {e : UInt8} {d : List UInt8} (hd : ∀ c ∈ d, isDig c = true) (h0 : d ≠ []) : expV C (e :: d) = (min (numV d) C : Nat) := by
  match d, h0 with
  | x :: d, _ =>
    have hx := not_dig (hd x (by simp))
    rw [expV_cons, if_neg hx.1, if_neg hx.2.2.2.2.2.2.2.1]
    unfold expM
    rw [take_all hd]
theorem expV_less {C : Nat} {e : UInt8} {d : List UInt8} (hd : ∀ c ∈ d, isDig c = true) : expV C (e :: 45 :: d) = -((min (numV d) C : Nat) : Int) := by
  rw [expV_cons, if_pos rfl]
  unfold expM
  rw [take_all hd]
/-- Digits, and what is behind them. -/
theorem num_plain {d r : List UInt8} (hd : ∀ c ∈ d, isDig c = true) (h0 : d ≠ []) (hr : ExpT r) : (numS (d ++ r)).1 = true ∧ numD (d ++ r) = d ∧ numB (d ++ r) = 0 ∧ numR (d ++ r) = r := by
  obtain ⟨h1, h2⟩ := span_app hd hr.noDig
  have hne : d.isEmpty = false := by simpa using h0
  have hp : ∀ s, r = 46 :: s → False := fun s e => by rcases hr.head 46 s e with h | h <;> exact absurd h (by decide)
  unfold numS numD numB numR
  rw [h2]
  match r, hr, hp with
  | [], _, _ =>
    rw [List.append_nil] at h1 ⊢
    simp [h1, h0, expS]
  | c :: s, hr, hp =>
    have hc : c ≠ 46 := fun e => hp s (by rw [e])
    refine ⟨?_, ?_, ?_, ?_⟩
    · split
      · rename_i s' e; injection e with e1 e2; exact absurd e1 hc
      · rw [h1, hne]; simpa using hr.ok
    · split
      · rename_i s' e; injection e with e1 e2; exact absurd e1 hc
      · exact h1
    · split
      · rename_i s' e; injection e with e1 e2; exact absurd e1 hc
      · rfl
    · split
      · rename_i s' e; injection e with e1 e2; exact absurd e1 hc
      · rfl
/-- Digits, a point, digits, and what is behind them. -/
theorem num_point {d d2 r : List UInt8} (hd : ∀ c ∈ d, isDig c = true) (hd2 : ∀ c ∈ d2, isDig c = true) (h0 : d ≠ [] ∨ d2 ≠ []) (hr : ExpT r) :
    (numS (d ++ 46 :: (d2 ++ r))).1 = true ∧ numD (d ++ 46 :: (d2 ++ r)) = d ++ d2 ∧ numB (d ++ 46 :: (d2 ++ r)) = d2.length ∧ numR (d ++ 46 :: (d2 ++ r)) = r := by
  obtain ⟨h1, h2⟩ := span_app (r := 46 :: (d2 ++ r)) hd (.cons (by decide))
  obtain ⟨h3, h4⟩ := span_app hd2 hr.noDig
  unfold numS numD numB numR
  rw [h2]
  simp only [h1, h3, h4]
  refine ⟨?_, by trivial⟩
  rw [if_neg]
  · exact hr.ok
  · rcases h0 with h | h <;> simp [h]
theorem trL_zeros (m : Nat) (l : List UInt8) : trL (List.replicate m 48 ++ l) = trL l := by
  induction m with
  | zero => rfl
  | succ m ih => rw [List.replicate_succ, List.cons_append]; unfold trL; rw [List.dropWhile_cons_of_pos (by decide)]; exact ih
theorem trL_zero (l : List UInt8) : trL (48 :: l) = trL l := trL_zeros 1 l
theorem trR_zeros (m : Nat) (l : List UInt8) : trR (l ++ List.replicate m 48) = trR l := by
  unfold trR
  rw [List.reverse_append, List.reverse_replicate]
  have := trL_zeros m l.reverse
  unfold trL at this
  rw [this]
theorem trR_self {l : List UInt8} (h : l.getLast? ≠ some 48) : trR l = l := by
  unfold trR
  have : l.reverse.dropWhile (· == 48) = l.reverse := by
    match hl : l.reverse with
    | [] => rfl
    | x :: s =>
      have : l.getLast? = some x := by
        rw [← List.reverse_reverse l, List.getLast?_reverse, hl]; rfl
      rw [List.dropWhile_cons_of_neg]
      intro e
      rw [this] at h
      exact h (by simpa using e)
  rw [this, List.reverse_reverse]
/-- Noughts behind a row that has another digit stay behind it. -/
theorem trL_append {l m : List UInt8} (h : trL l ≠ []) : trL (l ++ m) = trL l ++ m := by
  induction l with
  | nil => exact absurd rfl h
  | cons x l ih =>
    by_cases hx : x = 48
    · subst hx
      rw [trL_zero] at h ⊢
      rw [List.cons_append, trL_zero]
      exact ih h
    · have e : ∀ r : List UInt8, trL (x :: r) = x :: r := fun r => List.dropWhile_cons_of_neg (by simpa using hx)
      rw [List.cons_append, e, e]; rfl
theorem numS_head {t : List UInt8} (h : (numS t).1 = true) : ∃ c r, t = c :: r ∧ (isDig c = true ∨ c = 46) := by
  match t with
  | [] => exact absurd h (by decide)
  | c :: r =>
    refine ⟨c, r, rfl, ?_⟩
    by_cases h1 : isDig c = true
    · exact .inl h1
    · by_cases h2 : c = 46
      · exact .inr h2
      · rw [numS_other (by simpa using h1) h2] at h; cases h
theorem body_num {t : List UInt8} (h : (numS t).1 = true) (C : Nat) (neg : Bool) : (bodyS t).1 = true ∧ bodyV C neg t = itemV neg (numD t) (expV C (numR t) - (numB t : Int)) := by
  obtain ⟨c, r, rfl, hc⟩ := numS_head h
  have hk : wordK (c :: r) = 0 := by
    unfold wordK wINF wNAN wNAR
    rcases hc with hc | rfl
    · have := not_dig hc
      rw [if_neg (by simp [this.2.1]), if_neg (by simp [this.2.2.1]), if_neg (by simp [this.2.2.2.1])]
    · rw [if_neg (by simp), if_neg (by simp), if_neg (by simp)]
  unfold bodyS bodyV
  rw [if_neg (by simp [hk]), if_neg (by simp [hk])]
  exact ⟨h, rfl⟩
theorem text_pos {t : List UInt8} (h : (numS t).1 = true) (C : Nat) : (textS t).1 = true ∧ textV C t = itemV false (numD t) (expV C (numR t) - (numB t : Int)) := by
  obtain ⟨h1, h2⟩ := body_num h C false
  obtain ⟨c, r, rfl, hc⟩ := numS_head h
  have h45 : c ≠ 45 := by rcases hc with hc | rfl; exact (not_dig hc).1; decide
  unfold textS textV
  constructor
  · split
    · rename_i e; injection e with e1 e2; exact absurd e1 h45
    · exact h1
  · split
    · rename_i e; injection e with e1 e2; exact absurd e1 h45
    · exact h2
theorem text_neg {t : List UInt8} (h : (numS t).1 = true) (C : Nat) : (textS (45 :: t)).1 = true ∧ textV C (45 :: t) = itemV true (numD t) (expV C (numR t) - (numB t : Int)) := by
  obtain ⟨h1, h2⟩ := body_num h C true
  exact ⟨h1, h2⟩
end Go.Cal
