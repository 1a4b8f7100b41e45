/- Plain: the magnitudes of posits, as numbers, rise with their keys. Conditions: none. -/
/- Plain: a posit's run of alike bits, as the code finds it. Conditions: none. -/
/- Plain: the magnitudes of the forms that are no posits, as numbers; all forms' magnitudes and the boundaries between them rise. Conditions: none. -/
/- Plain: a magnitude's number, as the code reckons it, is the form's number. Conditions: none. -/
/- Plain: about how many bits a number has tells which one of two is larger, where these are far from one another. Conditions: none. -/
/- Plain: the magnitude that a number is rounded to: the least one behind which a boundary is not below it. Conditions: none. -/
import Derived.Test.YtncfbleeidjflaaGreatDoorPz00
namespace Go.Cal
/-- How long a key is that is written with so many bits: the bits of its regime's end, and what is behind. -/
def bl (x : Nat) : Nat := if x = 0 then 0 else x.log2 + 1
theorem bl_zero : bl 0 = 0 := rfl
theorem bl_iff {x k : Nat} : bl x ≤ k ↔ x < 2 ^ k := by
  unfold bl
  by_cases h : x = 0
  · subst h
    simp
    exact Nat.two_pow_pos k
  · rw [if_neg h, Nat.succ_le_iff, Nat.log2_lt h]
theorem bl_lt (x : Nat) : x < 2 ^ bl x := bl_iff.1 (Nat.le_refl _)
theorem bl_pos {x : Nat} (h : 0 < x) : 0 < bl x ∧ 2 ^ (bl x - 1) ≤ x := by
  have h1 : 0 < bl x := by
    rcases Nat.eq_zero_or_pos (bl x) with h0 | h0
    · have := bl_lt x
      rw [h0] at this
      simp at this
      omega
    · exact h0
  refine ⟨h1, ?_⟩
  rcases Nat.lt_or_ge x (2 ^ (bl x - 1)) with h2 | h2
  · have := bl_iff.2 h2
    omega
  · exact h2
theorem bl_mono {x y : Nat} (h : x ≤ y) : bl x ≤ bl y := bl_iff.2 (Nat.lt_of_le_of_lt h (bl_lt y))
/-- How many bits stand behind the regime (n bits a key), and the regime. -/
def poL (n key : Nat) : Nat := if key < 2 ^ (n - 1) then bl key - 1 else bl (2 ^ n - 1 - key) - 1
def poR (n key : Nat) : Int := if key < 2 ^ (n - 1) then (bl key : Int) - n else (n : Int) - bl (2 ^ n - 1 - key) - 1
/-- What stands behind it, as a number: its exponent, and its fraction, as a numerator over so many bits. -/
def poE (L rest : Nat) : Nat := rest / 2 ^ (L - 2) * 2 ^ (2 - L)
def poF (L rest : Nat) : Nat := 2 ^ (L - 2) + rest % 2 ^ (L - 2)
/-- The number, times 2 to the power of K. -/
def poV (K n key : Nat) : Nat := poF (poL n key) (key % 2 ^ poL n key) * 2 ^ ((K : Int) + 4 * poR n key + poE (poL n key) (key % 2 ^ poL n key) - ((poL n key - 2 : Nat) : Int)).toNat
theorem poE_lt {L rest : Nat} (h : rest < 2 ^ L) : poE L rest < 4 := by
  unfold poE
  rcases Nat.lt_or_ge L 2 with h2 | h2
  · have : L = 0 ∨ L = 1 := by omega
    rcases this with rfl | rfl
    · simp at h ⊢; omega
    · simp at h ⊢; omega
  · rw [show 2 - L = 0 by omega, Nat.pow_zero, Nat.mul_one]
    refine Nat.div_lt_of_lt_mul ?_
    rw [show (4 : Nat) = 2 ^ 2 from rfl, ← Nat.pow_add, show L - 2 + 2 = L by omega]
    exact h
theorem poF_bnd (L rest : Nat) : 2 ^ (L - 2) ≤ poF L rest ∧ poF L rest < 2 * 2 ^ (L - 2) := by
  unfold poF
  have := Nat.mod_lt rest (Nat.two_pow_pos (L - 2))
  omega
/-- The number behind a regime, rising. -/
def poW (M L rest : Nat) : Nat := poF L rest * 2 ^ (M + poE L rest)
theorem poW_lt (M L rest : Nat) (h : rest < 2 ^ L) : 2 ^ (L - 2) * 2 ^ M ≤ poW M L rest ∧ poW M L rest < 2 ^ (L - 2) * 2 ^ (M + 4) := by
  unfold poW
  obtain ⟨f1, f2⟩ := poF_bnd L rest
  have he := poE_lt h
  constructor
  · exact Nat.mul_le_mul f1 (Nat.pow_le_pow_right (by decide) (by omega))
  · have h1 : 2 ^ (M + poE L rest) ≤ 2 ^ (M + 3) := Nat.pow_le_pow_right (by decide) (by omega)
    have h2 : 0 < 2 ^ (M + poE L rest) := Nat.two_pow_pos _
    refine Nat.lt_of_lt_of_le (Nat.mul_lt_mul_of_pos_right f2 h2) ?_
    rw [show M + 4 = (M + 3) + 1 by omega, Nat.pow_succ, Nat.mul_comm 2, Nat.mul_assoc, Nat.mul_comm (2 ^ (M + 3))]
    exact Nat.mul_le_mul_left _ (Nat.mul_le_mul_left _ h1)
theorem poW_mono (M L r1 r2 : Nat) (h : r1 < r2) : poW M L r1 < poW M L r2 := by
  have hp := Nat.two_pow_pos (L - 2)
  obtain ⟨f1, f1'⟩ := poF_bnd L r1
  obtain ⟨f2, f2'⟩ := poF_bnd L r2
  have hle : r1 / 2 ^ (L - 2) ≤ r2 / 2 ^ (L - 2) := Nat.div_le_div_right (Nat.le_of_lt h)
  have hE : poE L r1 ≤ poE L r2 := Nat.mul_le_mul_right _ hle
  unfold poW
  by_cases he : poE L r1 = poE L r2
  · have hq : r1 / 2 ^ (L - 2) = r2 / 2 ^ (L - 2) := Nat.eq_of_mul_eq_mul_right (Nat.two_pow_pos (2 - L)) he
    have hr : r1 % 2 ^ (L - 2) < r2 % 2 ^ (L - 2) := by
      have a1 := Nat.div_add_mod r1 (2 ^ (L - 2))
      have a2 := Nat.div_add_mod r2 (2 ^ (L - 2))
      rw [hq] at a1
      omega
    rw [he]
    refine Nat.mul_lt_mul_of_pos_right ?_ (Nat.two_pow_pos _)
    unfold poF
    omega
  · have hlt : poE L r1 + 1 ≤ poE L r2 := by omega
    have h3 : 2 ^ (M + poE L r1 + 1) ≤ 2 ^ (M + poE L r2) := Nat.pow_le_pow_right (by decide) (by omega)
    have h4 : 0 < 2 ^ (M + poE L r1) := Nat.two_pow_pos _
    refine Nat.lt_of_lt_of_le (Nat.mul_lt_mul_of_pos_right f1' h4) ?_
    rw [Nat.pow_succ] at h3
    calc 2 * 2 ^ (L - 2) * 2 ^ (M + poE L r1) = 2 ^ (L - 2) * (2 ^ (M + poE L r1) * 2) := by ac_rfl
      _ ≤ poF L r2 * 2 ^ (M + poE L r2) := Nat.mul_le_mul f2 h3
theorem poR_mono {n k1 k2 : Nat} (hn : 1 ≤ n) (h : k1 ≤ k2) (h2 : k2 < 2 ^ n) : poR n k1 ≤ poR n k2 := by
  have hpn : 2 ^ n = 2 ^ (n - 1) * 2 := by rw [← Nat.pow_succ, show (n - 1).succ = n by omega]
  unfold poR
  by_cases c1 : k1 < 2 ^ (n - 1)
  · rw [if_pos c1]
    have b1 := bl_iff.2 c1
    by_cases c2 : k2 < 2 ^ (n - 1)
    · rw [if_pos c2]
      have := bl_mono h
      omega
    · rw [if_neg c2]
      have b2 : bl (2 ^ n - 1 - k2) ≤ n - 1 := bl_iff.2 (by omega)
      omega
  · rw [if_neg c1, if_neg (by omega)]
    have := bl_mono (x := 2 ^ n - 1 - k2) (y := 2 ^ n - 1 - k1) (by omega)
    omega
/-- Of one regime: as many bits behind it, and these rise. -/
theorem poR_same {n k1 k2 : Nat} (hn : 1 ≤ n) (h0 : 0 < k1) (h : k1 < k2) (h2 : k2 < 2 ^ n) (hr : poR n k1 = poR n k2) : poL n k1 = poL n k2 ∧ k1 % 2 ^ poL n k1 < k2 % 2 ^ poL n k1 := by
  have hpn : 2 ^ n = 2 ^ (n - 1) * 2 := by rw [← Nat.pow_succ, show (n - 1).succ = n by omega]
  unfold poR at hr
  unfold poL
  by_cases c1 : k1 < 2 ^ (n - 1)
  · rw [if_pos c1] at hr ⊢
    by_cases c2 : k2 < 2 ^ (n - 1)
    · rw [if_pos c2] at hr ⊢
      have he : bl k1 = bl k2 := by omega
      obtain ⟨p1, q1⟩ := bl_pos h0
      obtain ⟨p2, q2⟩ := bl_pos (x := k2) (by omega)
      have l1 := bl_lt k1
      have l2 := bl_lt k2
      rw [← he] at q2 l2
      refine ⟨by rw [he], ?_⟩
      have hp : 2 ^ bl k1 = 2 ^ (bl k1 - 1) * 2 := by rw [← Nat.pow_succ, show (bl k1 - 1).succ = bl k1 by omega]
      rw [Nat.mod_eq_sub_mod q1, Nat.mod_eq_sub_mod q2, Nat.mod_eq_of_lt (by omega), Nat.mod_eq_of_lt (by omega)]
      omega
    · rw [if_neg c2] at hr
      have b1 := bl_iff.2 c1
      have b2 : bl (2 ^ n - 1 - k2) ≤ n - 1 := bl_iff.2 (by omega)
      omega
  · have c2 : ¬ k2 < 2 ^ (n - 1) := by omega
    rw [if_neg c1, if_neg c2] at hr
    rw [if_neg c1, if_neg c2]
    have he : bl (2 ^ n - 1 - k1) = bl (2 ^ n - 1 - k2) := by omega
    obtain ⟨q, hq⟩ : ∃ q, bl (2 ^ n - 1 - k1) = q := ⟨_, rfl⟩
    rw [← he, hq]
    refine ⟨rfl, ?_⟩
    obtain ⟨p1, q1⟩ := bl_pos (x := 2 ^ n - 1 - k1) (by omega)
    rw [hq] at p1 q1
    have l1 := bl_lt (2 ^ n - 1 - k1)
    rw [hq] at l1
    have p2 : 2 ^ (q - 1) ≤ 2 ^ n - 1 - k2 := by
      rcases Nat.eq_zero_or_pos (2 ^ n - 1 - k2) with h9 | h9
      · have : bl (2 ^ n - 1 - k2) = 0 := by rw [h9]; rfl
        omega
      · have := (bl_pos h9).2
        rw [← he, hq] at this
        exact this
    have hp : 2 ^ q = 2 ^ (q - 1) * 2 := by rw [← Nat.pow_succ, show (q - 1).succ = q by omega]
    have hqn : q ≤ n := by rw [← hq]; exact bl_iff.2 (by omega)
    -- both lie in one row of 2 ^ (q - 1) keys that begins at a multiple
    obtain ⟨t, ht⟩ : ∃ t, 2 ^ n = 2 ^ (q - 1) * t := ⟨2 ^ (n - (q - 1)), by rw [← Nat.pow_add, show q - 1 + (n - (q - 1)) = n by omega]⟩
    have ht2 : 2 ≤ t := by
      rcases Nat.lt_or_ge t 2 with h9 | h9
      · have : 2 ^ (q - 1) * t ≤ 2 ^ (q - 1) * 1 := Nat.mul_le_mul_left _ (by omega)
        omega
      · exact h9
    have e0 : 2 ^ (q - 1) * t = 2 ^ (q - 1) * (t - 2) + 2 ^ (q - 1) * 2 := by rw [← Nat.mul_add]; congr 1; omega
    have m1 : k1 = 2 ^ (q - 1) * (t - 2) + (k1 - 2 ^ (q - 1) * (t - 2)) := by omega
    have m2 : k2 = 2 ^ (q - 1) * (t - 2) + (k2 - 2 ^ (q - 1) * (t - 2)) := by omega
    have r1 : k1 % 2 ^ (q - 1) = k1 - 2 ^ (q - 1) * (t - 2) := by
      rw [m1, Nat.mul_add_mod, Nat.mod_eq_of_lt (by omega), ← m1]
    have r2 : k2 % 2 ^ (q - 1) = k2 - 2 ^ (q - 1) * (t - 2) := by
      rw [m2, Nat.mul_add_mod, Nat.mod_eq_of_lt (by omega), ← m2]
    rw [r1, r2]
    omega
theorem poL_le {n key : Nat} (h : key < 2 ^ n) : poL n key ≤ n := by
  unfold poL
  split
  · have := bl_iff.2 h; omega
  · have : bl (2 ^ n - 1 - key) ≤ n := bl_iff.2 (by omega)
    omega
theorem poR_ge {n key : Nat} (h : key < 2 ^ n) : -(n : Int) - 1 ≤ poR n key ∧ poR n key ≤ n := by
  unfold poR
  split
  · have := bl_iff.2 h; omega
  · have : bl (2 ^ n - 1 - key) ≤ n := bl_iff.2 (by omega)
    omega
theorem poV_eq {K n key : Nat} (h : key < 2 ^ n) (hK : 5 * n + 4 ≤ K) : ∃ M : Nat, (M : Int) = (K : Int) + 4 * poR n key - ((poL n key - 2 : Nat) : Int) ∧ poV K n key = poW M (poL n key) (key % 2 ^ poL n key) := by
  have h1 := poL_le h
  have h2 := poR_ge h
  refine ⟨((K : Int) + 4 * poR n key - ((poL n key - 2 : Nat) : Int)).toNat, by omega, ?_⟩
  unfold poV poW
  congr 2
  omega
/-- The numbers of posits rise with their keys. -/
theorem poV_mono {K n k1 k2 : Nat} (hn : 1 ≤ n) (h0 : 0 < k1) (h : k1 < k2) (h2 : k2 < 2 ^ n) (hK : 5 * n + 4 ≤ K) : poV K n k1 < poV K n k2 := by
  obtain ⟨M1, a1, b1⟩ := poV_eq (K := K) (show k1 < 2 ^ n by omega) hK
  obtain ⟨M2, a2, b2⟩ := poV_eq (K := K) h2 hK
  have hm := poR_mono hn (Nat.le_of_lt h) h2
  rw [b1, b2]
  by_cases hr : poR n k1 = poR n k2
  · obtain ⟨e1, e2⟩ := poR_same hn h0 h h2 hr
    rw [e1, hr] at a1
    have : M1 = M2 := by omega
    rw [this, ← e1]
    exact poW_mono _ _ _ _ e2
  · obtain ⟨_, l1⟩ := poW_lt M1 (poL n k1) (k1 % 2 ^ poL n k1) (Nat.mod_lt _ (Nat.two_pow_pos _))
    obtain ⟨l2, _⟩ := poW_lt M2 (poL n k2) (k2 % 2 ^ poL n k2) (Nat.mod_lt _ (Nat.two_pow_pos _))
    rw [← Nat.pow_add] at l1 l2
    have : 2 ^ (poL n k1 - 2 + (M1 + 4)) ≤ 2 ^ (poL n k2 - 2 + M2) := Nat.pow_le_pow_right (by decide) (by omega)
    omega
theorem bl_twice {x : Nat} (b : Nat) (hb : b < 2) (h : 0 < 2 * x + b) : bl (2 * x + b) = bl x + 1 := by
  have h1 := bl_lt x
  have e1 : bl (2 * x + b) ≤ bl x + 1 := bl_iff.2 (by rw [Nat.pow_succ]; omega)
  have e2 : ¬ bl (2 * x + b) ≤ bl x := fun h2 => by
    have h3 := bl_iff.1 h2
    rcases Nat.eq_zero_or_pos x with h0 | h0
    · subst h0
      rw [bl_zero] at h3
      simp at h3
      omega
    · obtain ⟨p1, p2⟩ := bl_pos h0
      have : 2 ^ bl x = 2 ^ (bl x - 1) * 2 := by rw [← Nat.pow_succ, show (bl x - 1).succ = bl x by omega]
      omega
  omega
theorem mod_twice (k L : Nat) : (2 * k) % 2 ^ (L + 1) = 2 * (k % 2 ^ L) := by
  rw [Nat.pow_succ, Nat.mul_comm (2 ^ L) 2, Nat.mul_mod_mul_left]
theorem poP_twice {n key : Nat} (hn : 1 ≤ n) (h0 : 0 < key) (h : key < 2 ^ n) :
    poR (n + 1) (2 * key) = poR n key ∧ ((poL (n + 1) (2 * key) = poL n key + 1) ∨ (poL (n + 1) (2 * key) = 0 ∧ poL n key = 0)) := by
  have hpn : 2 ^ n = 2 ^ (n - 1) * 2 := by rw [← Nat.pow_succ, show (n - 1).succ = n by omega]
  have hp1 : 2 ^ (n + 1) = 2 ^ n * 2 := Nat.pow_succ ..
  unfold poR poL
  rw [show n + 1 - 1 = n by omega]
  by_cases c : key < 2 ^ (n - 1)
  · rw [if_pos c, if_pos c, if_pos (show 2 * key < 2 ^ n by omega), if_pos (show 2 * key < 2 ^ n by omega)]
    have e := bl_twice (x := key) 0 (by omega) (by omega)
    rw [Nat.add_zero] at e
    have := (bl_pos h0).1
    rw [e]
    exact ⟨by omega, .inl (by omega)⟩
  · rw [if_neg c, if_neg c, if_neg (show ¬ 2 * key < 2 ^ n by omega), if_neg (show ¬ 2 * key < 2 ^ n by omega)]
    have e1 : 2 ^ (n + 1) - 1 - 2 * key = 2 * (2 ^ n - 1 - key) + 1 := by omega
    rw [e1, bl_twice 1 (by omega) (by omega)]
    refine ⟨by omega, ?_⟩
    rcases Nat.eq_zero_or_pos (bl (2 ^ n - 1 - key)) with h9 | h9
    · exact .inr ⟨by omega, by omega⟩
    · exact .inl (by omega)
/-- A nought behind a key: the same number. -/
theorem poV_twice {K n key : Nat} (hn : 1 ≤ n) (h0 : 0 < key) (h : key < 2 ^ n) (hK : 5 * n + 10 ≤ K) : poV K (n + 1) (2 * key) = poV K n key := by
  obtain ⟨hR, hL⟩ := poP_twice hn h0 h
  have hl := poL_le h
  have hr := poR_ge h
  unfold poV
  rw [hR]
  rcases hL with hL | ⟨hL, hL'⟩
  · obtain ⟨L, hLn⟩ : ∃ L, poL n key = L := ⟨_, rfl⟩
    rw [hL, hLn, mod_twice]
    rw [hLn] at hl
    obtain ⟨r, hrr⟩ : ∃ r, key % 2 ^ L = r := ⟨_, rfl⟩
    have hrl : r < 2 ^ L := hrr ▸ Nat.mod_lt _ (Nat.two_pow_pos L)
    rw [hrr]
    rcases Nat.lt_or_ge L 2 with h2 | h2
    · have hE : poE (L + 1) (2 * r) = poE L r := by
        unfold poE
        have : L = 0 ∨ L = 1 := by omega
        rcases this with rfl | rfl
        · simp at hrl; subst hrl; simp
        · simp; omega
      have hF : poF (L + 1) (2 * r) = poF L r := by
        unfold poF
        rw [show L + 1 - 2 = 0 by omega, show L - 2 = 0 by omega]
        simp
        omega
      rw [hE, hF, show L + 1 - 2 = 0 by omega, show L - 2 = 0 by omega]
    · have hp : 2 ^ (L + 1 - 2) = 2 * 2 ^ (L - 2) := by rw [show L + 1 - 2 = (L - 2) + 1 by omega, Nat.pow_succ, Nat.mul_comm]
      have hE : poE (L + 1) (2 * r) = poE L r := by
        unfold poE
        rw [hp, Nat.mul_div_mul_left _ _ (by decide), show 2 - (L + 1) = 0 by omega, show 2 - L = 0 by omega]
      have hF : poF (L + 1) (2 * r) = 2 * poF L r := by
        unfold poF
        rw [hp, Nat.mul_mod_mul_left]
        omega
      rw [hE, hF]
      obtain ⟨x, hx⟩ : ∃ x : Nat, (K : Int) + 4 * poR n key + (poE L r : Nat) - ((L + 1 - 2 : Nat) : Int) = x := ⟨((K : Int) + 4 * poR n key + (poE L r : Nat) - ((L + 1 - 2 : Nat) : Int)).toNat, by omega⟩
      have hx2 : (K : Int) + 4 * poR n key + (poE L r : Nat) - ((L - 2 : Nat) : Int) = ((x + 1 : Nat) : Int) := by omega
      rw [hx, hx2, Int.toNat_natCast, Int.toNat_natCast, Nat.pow_succ]
      ac_rfl
  · rw [hL, hL']
    simp [Nat.mod_one]
end Go.Cal
namespace Go.Cal
theorem bl_put {x y k : Nat} (hx : 0 < x) (hy : y < 2 ^ k) : bl (x * 2 ^ k + y) = bl x + k := by
  obtain ⟨h1, h2⟩ := bl_pos hx
  have h3 := bl_lt x
  have hp := Nat.two_pow_pos k
  have hup : x * 2 ^ k + y < 2 ^ (bl x + k) := by
    rw [Nat.pow_add]
    have : (x + 1) * 2 ^ k ≤ 2 ^ bl x * 2 ^ k := Nat.mul_le_mul_right _ h3
    rw [Nat.add_mul, Nat.one_mul] at this
    omega
  have hlo : ¬ x * 2 ^ k + y < 2 ^ (bl x + k - 1) := by
    rw [show bl x + k - 1 = (bl x - 1) + k by omega, Nat.pow_add]
    have : 2 ^ (bl x - 1) * 2 ^ k ≤ x * 2 ^ k := Nat.mul_le_mul_right _ h2
    omega
  have a1 := bl_iff.2 hup
  have a2 : ¬ bl (x * 2 ^ k + y) ≤ bl x + k - 1 := fun h => hlo (bl_iff.1 h)
  omega
theorem bl_ones (k : Nat) : bl (2 ^ k - 1) = k := by
  have hp := Nat.two_pow_pos k
  have a1 : bl (2 ^ k - 1) ≤ k := bl_iff.2 (by omega)
  rcases Nat.eq_zero_or_pos k with h | h
  · omega
  · have a2 : ¬ bl (2 ^ k - 1) ≤ k - 1 := fun hh => by
      have := bl_iff.1 hh
      have e : 2 ^ k = 2 ^ (k - 1) * 2 := by rw [← Nat.pow_succ]; congr 1; omega
      have := Nat.two_pow_pos (k - 1)
      omega
    omega
/-- The noughts ahead of a key that is set against the word's upper end; the ones. -/
theorem run_low {n key : Nat} (hn : n ≤ 64) (h0 : 0 < key) (h : key < 2 ^ n) : 64 - bl (key * 2 ^ (64 - n)) = n - bl key := by
  have e := bl_put (k := 64 - n) (y := 0) h0 (Nat.two_pow_pos _)
  rw [Nat.add_zero] at e
  rw [e]
  have := bl_iff.2 h
  omega
theorem run_high {n key : Nat} (hn : n ≤ 64) (h : key < 2 ^ n) : 64 - bl (2 ^ 64 - 1 - key * 2 ^ (64 - n)) = n - bl (2 ^ n - 1 - key) := by
  have hp := Nat.two_pow_pos (64 - n)
  have e1 : 2 ^ 64 - 1 - key * 2 ^ (64 - n) = (2 ^ n - 1 - key) * 2 ^ (64 - n) + (2 ^ (64 - n) - 1) := by
    have e2 : (2 : Nat) ^ 64 = 2 ^ n * 2 ^ (64 - n) := by rw [← Nat.pow_add]; congr 1; omega
    obtain ⟨d, hd⟩ : ∃ d, 2 ^ n = key + 1 + d := ⟨2 ^ n - (key + 1), by omega⟩
    rw [e2, hd, show key + 1 + d - 1 - key = d by omega, Nat.add_mul, Nat.add_mul, Nat.one_mul]
    omega
  have hb : bl (2 ^ n - 1 - key) ≤ n := bl_iff.2 (by have := Nat.two_pow_pos n; omega)
  rw [e1]
  rcases Nat.eq_zero_or_pos (2 ^ n - 1 - key) with hz | hz
  · rw [hz, Nat.zero_mul, Nat.zero_add, bl_ones, bl_zero]
    omega
  · rw [bl_put hz (by omega)]
    omega
end Go.Cal
namespace Go.Cal
def miM (man key : Nat) : Nat := if key / 2 ^ man = 0 then key % 2 ^ man else 2 ^ man + key % 2 ^ man
def miE (man key : Nat) : Nat := max (key / 2 ^ man) 1
/-- The number of a magnitude, by so many twos. -/
def miW (man key : Nat) : Nat := miM man key * 2 ^ (miE man key - 1)
theorem miW_mono {man k1 k2 : Nat} (h : k1 < k2) : miW man k1 < miW man k2 := by
  obtain ⟨p, hp⟩ : ∃ p, 2 ^ man = p := ⟨_, rfl⟩
  have hp0 : 0 < p := hp ▸ Nat.two_pow_pos man
  have a1 := Nat.div_add_mod k1 p
  have a2 := Nat.div_add_mod k2 p
  have l1 := Nat.mod_lt k1 hp0
  have l2 := Nat.mod_lt k2 hp0
  have hle : k1 / p ≤ k2 / p := Nat.div_le_div_right (Nat.le_of_lt h)
  unfold miW miM miE
  rw [hp]
  by_cases he : k1 / p = k2 / p
  · have hr : k1 % p < k2 % p := by rw [he] at a1; omega
    rw [he]
    refine Nat.mul_lt_mul_of_pos_right ?_ (Nat.two_pow_pos _)
    split <;> omega
  · have hlt : k1 / p + 1 ≤ k2 / p := by omega
    obtain ⟨f1, hf1⟩ : ∃ f, k1 / p = f := ⟨_, rfl⟩
    obtain ⟨f2, hf2⟩ : ∃ f, k2 / p = f := ⟨_, rfl⟩
    rw [hf1, hf2] at hlt ⊢
    rw [if_neg (show ¬ f2 = 0 by omega)]
    have h2 : p * 2 ^ (f2 - 1) ≤ (p + k2 % p) * 2 ^ (max f2 1 - 1) := by
      rw [show max f2 1 = f2 by omega]
      exact Nat.mul_le_mul_right _ (by omega)
    refine Nat.lt_of_lt_of_le ?_ h2
    by_cases h0 : f1 = 0
    · rw [if_pos h0, h0, show max 0 1 - 1 = 0 by omega, Nat.pow_zero, Nat.mul_one]
      have := Nat.two_pow_pos (f2 - 1)
      have : p * 1 ≤ p * 2 ^ (f2 - 1) := Nat.mul_le_mul_left _ this
      omega
    · rw [if_neg h0, show max f1 1 = f1 by omega]
      have h3 : 2 ^ (f1 - 1 + 1) ≤ 2 ^ (f2 - 1) := Nat.pow_le_pow_right (by decide) (by omega)
      have h4 := Nat.two_pow_pos (f1 - 1)
      refine Nat.lt_of_lt_of_le (Nat.mul_lt_mul_of_pos_right (show p + k1 % p < p * 2 by omega) h4) ?_
      rw [Nat.mul_assoc, Nat.mul_comm 2, ← Nat.pow_succ]
      exact Nat.mul_le_mul_left _ h3
theorem miW_twice (man key : Nat) : miW (man + 1) (2 * key) = 2 * miW man key := by
  have hd : 2 * key / 2 ^ (man + 1) = key / 2 ^ man := by rw [Nat.pow_succ, Nat.mul_comm (2 ^ man) 2, Nat.mul_div_mul_left _ _ (by decide)]
  unfold miW miM miE
  rw [hd, mod_twice, Nat.pow_succ]
  split
  · rw [Nat.mul_assoc]
  · rw [show 2 ^ man * 2 + 2 * (key % 2 ^ man) = 2 * (2 ^ man + key % 2 ^ man) by omega, Nat.mul_assoc]
/-- A form's numbers, and the boundaries behind them, times 2 to the power of 2000: that of a key at twice the key, the boundary behind it one further. -/
def uN (kd wd mn bs j : Nat) : Nat :=
  if kd = 1 then (if j = 0 then 0 else poV 2000 wd j)
  else if kd = 2 then miW (mn + 1) j * 2 ^ (2000 - bs - mn)
  else if kd = 3 then j * 2 ^ (1999 - mn)
  else (2 + j % 2) * 2 ^ (1999 + j / 2 - bs)
theorem poV_pos {n key : Nat} (h : key < 2 ^ n) (hn : n ≤ 300) : 0 < poV 2000 n key := by
  obtain ⟨M, _, e⟩ := poV_eq (K := 2000) h (by omega)
  rw [e]
  have := (poW_lt M (poL n key) (key % 2 ^ poL n key) (Nat.mod_lt _ (Nat.two_pow_pos _))).1
  exact Nat.lt_of_lt_of_le (Nat.mul_pos (Nat.two_pow_pos _) (Nat.two_pow_pos _)) this
theorem uN_mono {kd wd mn bs j1 j2 : Nat} (hw : kd = 1 → 1 ≤ wd ∧ wd ≤ 300 ∧ j2 < 2 ^ wd) (hb : bs ≤ 1900) (h : j1 < j2) : uN kd wd mn bs j1 < uN kd wd mn bs j2 := by
  unfold uN
  by_cases c1 : kd = 1
  · obtain ⟨w1, w2, w3⟩ := hw c1
    rw [if_pos c1, if_pos c1, if_neg (show ¬ j2 = 0 by omega)]
    by_cases h0 : j1 = 0
    · rw [if_pos h0]; exact poV_pos w3 w2
    · rw [if_neg h0]; exact poV_mono w1 (by omega) h w3 (by omega)
  · rw [if_neg c1, if_neg c1]
    by_cases c2 : kd = 2
    · rw [if_pos c2, if_pos c2]
      exact Nat.mul_lt_mul_of_pos_right (miW_mono h) (Nat.two_pow_pos _)
    · rw [if_neg c2, if_neg c2]
      by_cases c3 : kd = 3
      · rw [if_pos c3, if_pos c3]
        exact Nat.mul_lt_mul_of_pos_right h (Nat.two_pow_pos _)
      · rw [if_neg c3, if_neg c3]
        by_cases he : j1 / 2 = j2 / 2
        · rw [he]
          exact Nat.mul_lt_mul_of_pos_right (by omega) (Nat.two_pow_pos _)
        · have h1 : 2 ^ (1999 + j1 / 2 - bs + 1) ≤ 2 ^ (1999 + j2 / 2 - bs) := Nat.pow_le_pow_right (by decide) (by omega)
          have h2 := Nat.two_pow_pos (1999 + j1 / 2 - bs)
          rw [Nat.pow_succ] at h1
          have h3 : (2 + j1 % 2) * 2 ^ (1999 + j1 / 2 - bs) < 4 * 2 ^ (1999 + j1 / 2 - bs) := Nat.mul_lt_mul_of_pos_right (by omega) h2
          have h4 : 2 * 2 ^ (1999 + j2 / 2 - bs) ≤ (2 + j2 % 2) * 2 ^ (1999 + j2 / 2 - bs) := Nat.mul_le_mul_right _ (by omega)
          omega
end Go.Cal
namespace Go.Cal
/-- How many twos are in a number. -/
def tzN : Nat → Nat → Nat
  | 0, _ => 0
  | f + 1, m => if m % 2 = 0 then tzN f (m / 2) + 1 else 0
theorem tzN_div : ∀ (f m : Nat), m / 2 ^ tzN f m * 2 ^ tzN f m = m
  | 0, m => by simp [tzN]
  | f + 1, m => by
    unfold tzN
    by_cases h : m % 2 = 0
    · rw [if_pos h]
      have ih := tzN_div f (m / 2)
      rw [Nat.pow_succ, Nat.mul_comm (2 ^ tzN f (m / 2)) 2, ← Nat.div_div_eq_div_mul, Nat.mul_left_comm, ih]
      omega
    · rw [if_neg h]; simp
/-- A number as an odd one, and a power of two. -/
def oddP (f m : Nat) (e : Int) : Nat × Int := if m = 0 then (0, 0) else (m / 2 ^ tzN f m, e + tzN f m)
theorem oddP_val {f m K : Nat} {e : Int} (hK : 0 ≤ (K : Int) + e) : (oddP f m e).1 * 2 ^ ((K : Int) + (oddP f m e).2).toNat = m * 2 ^ ((K : Int) + e).toNat := by
  unfold oddP
  by_cases h : m = 0
  · rw [if_pos h, h]; simp
  · rw [if_neg h]
    obtain ⟨a, ha⟩ : ∃ a : Nat, (K : Int) + e = a := ⟨((K : Int) + e).toNat, by omega⟩
    have h2 : (K : Int) + (e + (tzN f m : Nat)) = ((a + tzN f m : Nat) : Int) := by omega
    show m / 2 ^ tzN f m * 2 ^ ((K : Int) + (e + (tzN f m : Nat))).toNat = _
    rw [h2, ha, Int.toNat_natCast, Int.toNat_natCast, Nat.pow_add, Nat.mul_comm (2 ^ a), ← Nat.mul_assoc, tzN_div]
/-- A magnitude's number with so many bits more, ahead of its being made odd. -/
def numQ (kd wd mn bs more key : Nat) : Nat × Int :=
  if kd = 1 then (poF (poL (wd + more - 1) key) (key % 2 ^ poL (wd + more - 1) key), 4 * poR (wd + more - 1) key + poE (poL (wd + more - 1) key) (key % 2 ^ poL (wd + more - 1) key) - ((poL (wd + more - 1) key - 2 : Nat) : Int))
  else if kd = 2 then (miM (mn + more) key, (miE (mn + more) key : Int) - bs - (mn + more : Nat))
  else if kd = 3 then (key, -((mn + more : Nat) : Int))
  else (1 + 2 * more, (key / 2 ^ more : Nat) - (bs : Int) - (more : Nat))
theorem numQ_two (kd wd mn bs key : Nat) (hw : kd = 1 → 2 ≤ wd ∧ wd ≤ 300 ∧ 0 < key ∧ key < 2 ^ (wd - 1)) (hb : bs + mn ≤ 1900) :
    0 ≤ (2000 : Int) + (numQ kd wd mn bs 0 key).2 ∧ (numQ kd wd mn bs 0 key).1 * 2 ^ ((2000 : Int) + (numQ kd wd mn bs 0 key).2).toNat = uN kd wd mn bs (2 * key) := by
  unfold numQ uN
  by_cases h1 : kd = 1
  · obtain ⟨w1, w2, w3, w4⟩ := hw h1
    rw [if_pos h1, if_pos h1, if_neg (by omega)]
    have hl := poL_le w4
    have hr := poR_ge w4
    have ht := poV_twice (K := 2000) (n := wd - 1) (key := key) (by omega) w3 w4 (by omega)
    rw [show wd - 1 + 1 = wd by omega] at ht
    rw [ht, Nat.add_zero]
    constructor
    · simp only; omega
    · unfold poV
      simp only
      congr 2
      omega
  · rw [if_neg h1, if_neg h1]
    by_cases h2 : kd = 2
    · rw [if_pos h2, if_pos h2, miW_twice, Nat.add_zero]
      constructor
      · simp only; omega
      · simp only
        unfold miW
        have he : 1 ≤ miE mn key := by unfold miE; omega
        obtain ⟨x, hx⟩ : ∃ x, miE mn key = x + 1 := ⟨miE mn key - 1, by omega⟩
        rw [hx, show x + 1 - 1 = x by omega, show ((2000 : Int) + (((x + 1 : Nat) : Int) - (bs : Int) - (mn : Nat))).toNat = 1 + x + (2000 - bs - mn) by omega, Nat.pow_add, Nat.pow_add]
        rw [Nat.pow_one]
        ac_rfl
    · rw [if_neg h2, if_neg h2]
      by_cases h3 : kd = 3
      · rw [if_pos h3, if_pos h3, Nat.add_zero]
        constructor
        · simp only; omega
        · simp only
          rw [show ((2000 : Int) + -(mn : Int)).toNat = 1 + (1999 - mn) by omega, Nat.pow_add, Nat.pow_one]
          ac_rfl
      · rw [if_neg h3, if_neg h3]
        simp only [Nat.pow_zero, Nat.div_one]
        constructor
        · omega
        · rw [show ((2000 : Int) + ((key : Int) - (bs : Int) - ((0 : Nat) : Int))).toNat = 1 + (1999 + 2 * key / 2 - bs) by omega, Nat.pow_add, Nat.pow_one, show 2 * key % 2 = 0 by omega]
          omega
theorem numQ_one (kd wd mn bs j : Nat) (hj : j % 2 = 1) (hw : kd = 1 → 1 ≤ wd ∧ wd ≤ 300 ∧ j < 2 ^ wd) (hb : bs + mn ≤ 1900) :
    0 ≤ (2000 : Int) + (numQ kd wd mn bs 1 j).2 ∧ (numQ kd wd mn bs 1 j).1 * 2 ^ ((2000 : Int) + (numQ kd wd mn bs 1 j).2).toNat = uN kd wd mn bs j := by
  unfold numQ uN
  by_cases h1 : kd = 1
  · obtain ⟨w1, w2, w4⟩ := hw h1
    rw [if_pos h1, if_pos h1, if_neg (by omega), show wd + 1 - 1 = wd by omega]
    have hl := poL_le w4
    have hr := poR_ge w4
    constructor
    · simp only; omega
    · unfold poV
      simp only
      congr 2
      omega
  · rw [if_neg h1, if_neg h1]
    by_cases h2 : kd = 2
    · rw [if_pos h2, if_pos h2]
      constructor
      · simp only; omega
      · simp only
        unfold miW
        have he : 1 ≤ miE (mn + 1) j := by unfold miE; omega
        obtain ⟨x, hx⟩ : ∃ x, miE (mn + 1) j = x + 1 := ⟨miE (mn + 1) j - 1, by omega⟩
        rw [hx, show x + 1 - 1 = x by omega, show ((2000 : Int) + (((x + 1 : Nat) : Int) - (bs : Int) - ((mn + 1 : Nat) : Int))).toNat = x + (2000 - bs - mn) by omega, Nat.pow_add]
        ac_rfl
    · rw [if_neg h2, if_neg h2]
      by_cases h3 : kd = 3
      · rw [if_pos h3, if_pos h3]
        constructor
        · simp only; omega
        · simp only
          rw [show ((2000 : Int) + -((mn + 1 : Nat) : Int)).toNat = 1999 - mn by omega]
      · rw [if_neg h3, if_neg h3]
        simp only [Nat.pow_one]
        constructor
        · omega
        · rw [show ((2000 : Int) + (((j / 2 : Nat) : Int) - (bs : Int) - ((1 : Nat) : Int))).toNat = 1999 + j / 2 - bs by omega, hj]
end Go.Cal
namespace Go.Cal
/-- The logarithm of a power of five to the base of two, about. -/
def lg5 (f : Nat) : Nat := f * 2321928095 / 1000000000
theorem five_low (f : Nat) : 2 ^ (f * 339 / 146) ≤ 5 ^ f := by
  have h0 : 2 ^ 339 ≤ 5 ^ 146 := by decide +kernel
  refine (Nat.pow_le_pow_iff_left (n := 146) (by decide)).1 ?_
  rw [← Nat.pow_mul, ← Nat.pow_mul, Nat.mul_comm f 146, Nat.pow_mul 5]
  refine Nat.le_trans (Nat.pow_le_pow_right (by decide) (show f * 339 / 146 * 146 ≤ 339 * f by omega)) ?_
  rw [Nat.pow_mul]
  exact Nat.pow_le_pow_left h0 f
theorem five_high (f : Nat) : 5 ^ f ≤ 2 ^ ((f * 137 + 58) / 59) := by
  have h0 : 5 ^ 59 ≤ 2 ^ 137 := by decide +kernel
  refine (Nat.pow_le_pow_iff_left (n := 59) (by decide)).1 ?_
  rw [← Nat.pow_mul, ← Nat.pow_mul, Nat.mul_comm f 59, Nat.pow_mul 5]
  refine Nat.le_trans (Nat.pow_le_pow_left h0 f) ?_
  rw [← Nat.pow_mul]
  exact Nat.pow_le_pow_right (by decide) (by omega)
theorem five_lg {f : Nat} (h : f ≤ 5000) : 2 ^ lg5 f ≤ 2 * 5 ^ f ∧ 5 ^ f ≤ 2 ^ (lg5 f + 2) := by
  have h1 := five_low f
  have h2 := five_high f
  unfold lg5
  constructor
  · have : 2 ^ (f * 2321928095 / 1000000000) ≤ 2 ^ (f * 339 / 146 + 1) := Nat.pow_le_pow_right (by decide) (by omega)
    rw [Nat.pow_succ, Nat.mul_comm _ 2] at this
    exact Nat.le_trans this (Nat.mul_le_mul_left 2 h1)
  · exact Nat.le_trans h2 (Nat.pow_le_pow_right (by decide) (by omega))
/-- A number N times 2 to the power of t times 5 to the power of f, as a numerator and a denominator. -/
def exP (N : Nat) (t f : Int) : Nat := N * 5 ^ f.toNat * 2 ^ t.toNat
def exQ (t f : Int) : Nat := 5 ^ (-f).toNat * 2 ^ (-t).toNat
theorem exQ_pos (t f : Int) : 0 < exQ t f := Nat.mul_pos (Nat.pow_pos (by decide)) (Nat.two_pow_pos _)
/-- The size, as the code reckons it: b bits. -/
def exS (b : Nat) (t f : Int) : Int := b + t + (f * 2321928095).tdiv 1000000000
theorem lg_tdiv (f : Int) : (f * 2321928095).tdiv 1000000000 = (lg5 f.toNat : Int) - lg5 (-f).toNat := by
  unfold lg5
  rcases Int.le_total 0 f with h | h
  · rw [show (-f).toNat = 0 by omega, Int.tdiv_eq_ediv_of_nonneg (by omega)]
    omega
  · rw [show f.toNat = 0 by omega]
    have h1 : (f * 2321928095).tdiv 1000000000 = -((-(f * 2321928095)).tdiv 1000000000) := by rw [Int.neg_tdiv, Int.neg_neg]
    rw [h1, Int.tdiv_eq_ediv_of_nonneg (by omega)]
    omega
/-- Between which powers of two it lies. -/
theorem exS_bnd {N b : Nat} {t f : Int} (hN : N < 2 ^ b) (hN' : 2 ^ b ≤ 2 * N) (hf : -5000 ≤ f ∧ f ≤ 5000) (hT : -20000 ≤ t ∧ t ≤ 20000) :
    -40000 ≤ exS b t f ∧ exP N t f * 2 ^ 60000 < exQ t f * 2 ^ (60000 + exS b t f + 3).toNat ∧ exQ t f * 2 ^ (60000 + exS b t f - 4).toNat ≤ exP N t f * 2 ^ 60000 := by
  obtain ⟨T, hTe⟩ : ∃ T : Nat, T = 60000 := ⟨_, rfl⟩
  have hTi : (60000 : Int) = (T : Int) := by omega
  obtain ⟨x, hx⟩ : ∃ x, f.toNat = x := ⟨_, rfl⟩
  obtain ⟨y, hy⟩ : ∃ y, (-f).toNat = y := ⟨_, rfl⟩
  obtain ⟨u, hu⟩ : ∃ u, t.toNat = u := ⟨_, rfl⟩
  obtain ⟨v, hv⟩ : ∃ v, (-t).toNat = v := ⟨_, rfl⟩
  obtain ⟨lx1, lx2⟩ := five_lg (f := x) (by omega)
  obtain ⟨ly1, ly2⟩ := five_lg (f := y) (by omega)
  have hlg := lg_tdiv f
  rw [hx, hy] at hlg
  have hlx : lg5 x ≤ 12000 := by unfold lg5; omega
  have hly : lg5 y ≤ 12000 := by unfold lg5; omega
  have hs : exS b t f = (b : Int) + u - v + (lg5 x : Int) - lg5 y := by unfold exS; omega
  unfold exP exQ
  rw [hx, hy, hu, hv, hs, hTi, ← hTe]
  obtain ⟨X, hX⟩ : ∃ X, lg5 x = X := ⟨_, rfl⟩
  obtain ⟨Y, hY⟩ : ∃ Y, lg5 y = Y := ⟨_, rfl⟩
  rw [hX] at lx1 lx2 hlx
  rw [hY] at ly1 ly2 hly
  rw [hX, hY]
  clear hs hlg hX hY
  refine ⟨by omega, ?_, ?_⟩
  · have hpos : 0 < 2 ^ (X + 2) * 2 ^ u * 2 ^ T := Nat.mul_pos (Nat.mul_pos (Nat.two_pow_pos _) (Nat.two_pow_pos _)) (Nat.two_pow_pos _)
    have h1 : N * (5 ^ x * 2 ^ u * 2 ^ T) < 2 ^ b * (2 ^ (X + 2) * 2 ^ u * 2 ^ T) :=
      Nat.lt_of_le_of_lt (Nat.mul_le_mul_left N (Nat.mul_le_mul_right _ (Nat.mul_le_mul_right _ lx2))) (Nat.mul_lt_mul_of_pos_right hN hpos)
    have h2 : 2 ^ Y * 2 ^ v * 2 ^ ((T : Int) + ((b : Int) + u - v + X - Y) + 3).toNat ≤ 2 * 5 ^ y * 2 ^ v * 2 ^ ((T : Int) + ((b : Int) + u - v + X - Y) + 3).toNat := Nat.mul_le_mul_right _ (Nat.mul_le_mul_right _ ly1)
    rw [← Nat.pow_add, ← Nat.pow_add, ← Nat.pow_add] at h1
    rw [← Nat.pow_add, ← Nat.pow_add] at h2
    have h3 : 2 * 2 ^ (b + (X + 2 + u + T)) = 2 ^ (Y + v + ((T : Int) + ((b : Int) + u - v + X - Y) + 3).toNat) := by
      rw [Nat.mul_comm, ← Nat.pow_succ]
      congr 1
      omega
    rw [← h3, Nat.mul_assoc 2, Nat.mul_assoc 2] at h2
    have h4 := Nat.le_of_mul_le_mul_left h2 (by decide)
    have e1 : N * 5 ^ x * 2 ^ u * 2 ^ T = N * (5 ^ x * 2 ^ u * 2 ^ T) := by simp only [Nat.mul_assoc]
    rw [e1]
    exact Nat.lt_of_lt_of_le h1 h4
  · have h1 : 5 ^ y * 2 ^ v * 2 ^ ((T : Int) + ((b : Int) + u - v + X - Y) - 4).toNat ≤ 2 ^ (Y + 2) * 2 ^ v * 2 ^ ((T : Int) + ((b : Int) + u - v + X - Y) - 4).toNat := Nat.mul_le_mul_right _ (Nat.mul_le_mul_right _ ly2)
    have h2 : 2 ^ b * 2 ^ X * 2 ^ u * 2 ^ T ≤ (2 * N) * (2 * 5 ^ x) * 2 ^ u * 2 ^ T := Nat.mul_le_mul_right _ (Nat.mul_le_mul_right _ (Nat.mul_le_mul hN' lx1))
    rw [← Nat.pow_add, ← Nat.pow_add] at h1
    rw [← Nat.pow_add, ← Nat.pow_add, ← Nat.pow_add] at h2
    have h3 : 2 ^ (b + X + u + T) = 4 * 2 ^ (Y + 2 + v + ((T : Int) + ((b : Int) + u - v + X - Y) - 4).toNat) := by
      rw [show (4 : Nat) = 2 ^ 2 from rfl, ← Nat.pow_add]
      congr 1
      omega
    have h4 : (2 * N) * (2 * 5 ^ x) * 2 ^ u * 2 ^ T = 4 * (N * 5 ^ x * 2 ^ u * 2 ^ T) := by
      rw [show (4 : Nat) = 2 * 2 from rfl]
      ac_rfl
    rw [h3, h4] at h2
    exact Nat.le_trans h1 (Nat.le_of_mul_le_mul_left h2 (by decide))
/-- Far from one another: the order is told. -/
theorem exS_far {N1 N2 b1 b2 : Nat} {t1 f1 t2 f2 : Int} (h1 : N1 < 2 ^ b1) (h1' : 2 ^ b1 ≤ 2 * N1) (h2 : N2 < 2 ^ b2) (h2' : 2 ^ b2 ≤ 2 * N2) (hf1 : -5000 ≤ f1 ∧ f1 ≤ 5000) (hf2 : -5000 ≤ f2 ∧ f2 ≤ 5000) (hT1 : -20000 ≤ t1 ∧ t1 ≤ 20000) (hT2 : -20000 ≤ t2 ∧ t2 ≤ 20000)
    (hfar : 6 < exS b1 t1 f1 - exS b2 t2 f2) : exP N2 t2 f2 * exQ t1 f1 < exP N1 t1 f1 * exQ t2 f2 := by
  obtain ⟨l1, _, a2⟩ := exS_bnd h1 h1' hf1 hT1
  obtain ⟨l2, c1, _⟩ := exS_bnd h2 h2' hf2 hT2
  have q1 := exQ_pos t1 f1
  have q2 := exQ_pos t2 f2
  obtain ⟨s1, hs1⟩ : ∃ s, exS b1 t1 f1 = s := ⟨_, rfl⟩
  obtain ⟨s2, hs2⟩ : ∃ s, exS b2 t2 f2 = s := ⟨_, rfl⟩
  rw [hs1] at a2 hfar l1
  rw [hs2] at c1 hfar l2
  generalize exP N1 t1 f1 = P1 at *
  generalize exP N2 t2 f2 = P2 at *
  generalize exQ t1 f1 = Q1 at *
  generalize exQ t2 f2 = Q2 at *
  have hlt : 2 ^ (60000 + s2 + 3).toNat ≤ 2 ^ (60000 + s1 - 4).toNat := Nat.pow_le_pow_right (by decide) (by omega)
  have hT := Nat.two_pow_pos 60000
  generalize 2 ^ 60000 = T at *
  generalize 2 ^ (60000 + s2 + 3).toNat = A at *
  generalize 2 ^ (60000 + s1 - 4).toNat = B at *
  refine Nat.lt_of_mul_lt_mul_right (a := T) ?_
  calc P2 * Q1 * T = P2 * T * Q1 := by ac_rfl
    _ < Q2 * A * Q1 := Nat.mul_lt_mul_of_pos_right c1 q1
    _ ≤ Q2 * B * Q1 := Nat.mul_le_mul_right _ (Nat.mul_le_mul_left _ hlt)
    _ = Q1 * B * Q2 := by ac_rfl
    _ ≤ P1 * T * Q2 := Nat.mul_le_mul_right _ a2
    _ = P1 * Q2 * T := by ac_rfl
end Go.Cal
namespace Go.Cal
/-- Bit by bit: the greatest of those that are too small, and one more. -/
def seek (wi : Nat → Bool) (most : Nat) : Nat → Nat → Nat
  | 0, key => key
  | b + 1, key => seek wi most b (if key + 2 ^ b ≤ most ∧ wi (key + 2 ^ b - 1) = false then key + 2 ^ b else key)
theorem seek_is {wi : Nat → Bool} {most a : Nat} (hm : ∀ i j, i ≤ j → wi i = true → wi j = true) (ha : wi a = true) (hl : ∀ i, i < a → wi i = false) (hle : a ≤ most) : ∀ (b key : Nat), key ≤ a → a < key + 2 ^ b → seek wi most b key = a
  | 0, key, h1, h2 => by
    unfold seek
    simp at h2
    omega
  | b + 1, key, h1, h2 => by
    have hp := Nat.two_pow_pos b
    rw [Nat.pow_succ] at h2
    unfold seek
    by_cases h : key + 2 ^ b ≤ most ∧ wi (key + 2 ^ b - 1) = false
    · rw [if_pos h]
      have : key + 2 ^ b ≤ a := by
        rcases Nat.lt_or_ge a (key + 2 ^ b) with h3 | h3
        · have := hm a (key + 2 ^ b - 1) (by omega) ha
          rw [h.2] at this
          cases this
        · exact h3
      exact seek_is hm ha hl hle b _ this (by omega)
    · rw [if_neg h]
      refine seek_is hm ha hl hle b _ h1 ?_
      rcases Nat.lt_or_ge a (key + 2 ^ b) with h3 | h3
      · exact h3
      · exact absurd ⟨by omega, hl _ (by omega)⟩ h
theorem seek_le {wi : Nat → Bool} {most : Nat} : ∀ (b key : Nat), key ≤ most → seek wi most b key ≤ most
  | 0, key, h => h
  | b + 1, key, h => by
    unfold seek
    split
    · rename_i h2; exact seek_le b _ h2.1
    · exact seek_le b _ h
/-- There is a least one, where there is one. -/
theorem least_of {wi : Nat → Bool} : ∀ {m : Nat}, wi m = true → ∃ a, a ≤ m ∧ wi a = true ∧ ∀ i, i < a → wi i = false := by
  intro m
  induction m using Nat.strongRecOn with
  | ind m ih =>
    intro h
    by_cases hx : ∃ i, i < m ∧ wi i = true
    · obtain ⟨i, hi, hw⟩ := hx
      obtain ⟨a, h1, h2, h3⟩ := ih i hi hw
      exact ⟨a, by omega, h2, h3⟩
    · refine ⟨m, Nat.le_refl _, h, fun i hi => ?_⟩
      cases hw : wi i with
      | false => rfl
      | true => exact absurd ⟨i, hi, hw⟩ hx
def sc2 : Nat := 2 ^ 2000
/-- Is a size p / q to be rounded to a magnitude, or a lesser one? -/
def wiN (kd wd mn bs p q key : Nat) : Bool := decide (p * sc2 < uN kd wd mn bs (2 * key + 1) * q) || (decide (p * sc2 = uN kd wd mn bs (2 * key + 1) * q) && key % 2 == 0)
theorem wiN_mono {kd wd mn bs p q i j : Nat} (hq : 0 < q) (hw : kd = 1 → 1 ≤ wd ∧ wd ≤ 300 ∧ 2 * j + 1 < 2 ^ wd) (hb : bs ≤ 1900) (h : i ≤ j) (hi : wiN kd wd mn bs p q i = true) : wiN kd wd mn bs p q j = true := by
  rcases Nat.eq_or_lt_of_le h with rfl | h
  · exact hi
  · have hm : uN kd wd mn bs (2 * i + 1) * q < uN kd wd mn bs (2 * j + 1) * q := Nat.mul_lt_mul_of_pos_right (uN_mono hw hb (by omega)) hq
    unfold wiN at hi ⊢
    simp only [Bool.or_eq_true, Bool.and_eq_true, decide_eq_true_eq] at hi ⊢
    rcases hi with hi | hi
    · exact .inl (Nat.lt_trans hi hm)
    · exact .inl (by rw [hi.1]; exact hm)
end Go.Cal
