/- Plain: how digits are written, and what digits a text has (chapter 12). Conditions: none. -/
import Derived.Test.YtjhdkdfiadlmcaaGreatDoorScanZ
import Derived.Lib.IndexMore
import Derived.Lib.AtoiAllCases
namespace Go.Cal
open Go.Lib
/-- What stands ahead of the first c, what behind it, and is there one. -/
def cutC (c : UInt8) (l : List UInt8) : List UInt8 × List UInt8 × Bool := (l.takeWhile (· != c), (l.dropWhile (· != c)).drop 1, l.contains c)
theorem prefix_one (c b : UInt8) (l : List UInt8) : [c].isPrefixOf (b :: l) = (c == b) := by simp [List.isPrefixOf]
theorem cut_hit {l : List UInt8} {sep : List UInt8} (h : 0 ≤ index l sep) : cut l sep = (l.take (index l sep).toNat, l.drop ((index l sep).toNat + sep.length), true) := by unfold cut; rw [if_pos h]
theorem cut_miss {l : List UInt8} {sep : List UInt8} (h : ¬ 0 ≤ index l sep) : cut l sep = (l, [], false) := by unfold cut; rw [if_neg h]
theorem cut_one (c : UInt8) : ∀ l, cut l [c] = cutC c l
  | [] => by
    have h : ¬ 0 ≤ index [] [c] := by unfold index; simp
    rw [cut_miss h]; rfl
  | b :: l => by
    have ih := cut_one c l
    have hi : index (b :: l) [c] = if c == b then 0 else if index l [c] == -1 then -1 else index l [c] + 1 := by
      show (if [c].isPrefixOf (b :: l) then (0 : Int) else _) = _
      rw [prefix_one]
    by_cases hb : b = c
    · subst hb
      have h0 : index (b :: l) [b] = 0 := by rw [hi]; simp
      rw [cut_hit (by rw [h0]; exact Int.le_refl _), h0]
      unfold cutC
      simp
    · have hcb : (c == b) = false := by simpa using fun e : c = b => hb e.symm
      rw [hcb] at hi
      simp only [Bool.false_eq_true, if_false] at hi
      have hbc : (b != c) = true := by simpa using hb
      have hcc : cutC c (b :: l) = (b :: (cutC c l).1, (cutC c l).2.1, (cutC c l).2.2) := by
        unfold cutC
        rw [List.takeWhile_cons_of_pos (p := (· != c)) hbc, List.dropWhile_cons_of_pos (p := (· != c)) hbc]
        have hne : ¬ c = b := fun e => hb e.symm
        simp [hne]
      rw [hcc]
      have hge := index_ge l [c]
      by_cases hm : index l [c] = -1
      · have h1 : index (b :: l) [c] = -1 := by rw [hi, hm]; simp
        rw [cut_miss (by rw [h1]; decide)]
        rw [cut_miss (by rw [hm]; decide)] at ih
        rw [← ih]
      · have h1 : index (b :: l) [c] = index l [c] + 1 := by rw [hi, if_neg (by simpa using hm)]
        rw [cut_hit (by omega), h1, show (index l [c] + 1).toNat = (index l [c]).toNat + 1 by omega]
        rw [cut_hit (by omega)] at ih
        rw [← ih]
        simp
/-- What has no c is not cut; what begins without one, is. -/
theorem take_none {c : UInt8} : ∀ {l : List UInt8}, c ∉ l → l.takeWhile (· != c) = l ∧ l.dropWhile (· != c) = []
  | [], _ => ⟨rfl, rfl⟩
  | x :: l, h => by
    have hx : (x != c) = true := by simpa using fun e : x = c => h (by simp [e])
    obtain ⟨h1, h2⟩ := take_none (l := l) fun e : c ∈ l => h (List.mem_cons_of_mem _ e)
    rw [List.takeWhile_cons_of_pos (p := (· != c)) hx, List.dropWhile_cons_of_pos (p := (· != c)) hx, h1, h2]
    exact ⟨rfl, rfl⟩
theorem cutC_none {c : UInt8} {l : List UInt8} (h : c ∉ l) : cutC c l = (l, [], false) := by
  unfold cutC
  obtain ⟨h1, h2⟩ := take_none h
  rw [h1, h2]
  simpa using h
theorem cutC_some {c : UInt8} {l r : List UInt8} (h : c ∉ l) : cutC c (l ++ c :: r) = (l, r, true) := by
  unfold cutC
  have h0 : ∀ x ∈ l, (x != c) = true := fun x hx => by simpa using fun e : x = c => h (e ▸ hx)
  rw [List.takeWhile_append_of_pos h0, List.dropWhile_append_of_pos h0]
  simp
/-- A numeral is read as the number that it is. -/
theorem uint_digs : ∀ (l : List UInt8) (acc : Nat), (∀ c ∈ l, isDig c = true) → acc * 10 ^ l.length + numV l < 1844674407370955162 → parseUint10 acc l = .ok (acc * 10 ^ l.length + numV l)
  | [], acc, _, _ => by simp [parseUint10, numV]
  | c :: r, acc, hd, hb => by
    have hc := hd c (by simp)
    unfold isDig at hc
    simp only [Bool.and_eq_true, decide_eq_true_eq] at hc
    have hn : numV (c :: r) = (c.toNat - 48) * 10 ^ r.length + numV r := by
      have := numV_append [c] r
      rw [List.singleton_append] at this
      rw [this]; simp [numV]
    have hs : acc * 10 ^ (c :: r).length + numV (c :: r) = (acc * 10 + (c.toNat - 48)) * 10 ^ r.length + numV r := by
      rw [hn, List.length_cons, Nat.pow_succ, Nat.add_mul, Nat.add_assoc, Nat.mul_comm (10 ^ r.length) 10, ← Nat.mul_assoc]
    rw [hs] at hb ⊢
    have hp : 0 < 10 ^ r.length := Nat.pow_pos (by decide)
    have h1 : (acc * 10 + (c.toNat - 48)) * 1 ≤ (acc * 10 + (c.toNat - 48)) * 10 ^ r.length := Nat.mul_le_mul_left _ hp
    unfold parseUint10
    rw [if_pos hc, if_neg (by omega), if_neg (by omega)]
    exact uint_digs r _ (fun x hx => hd x (by simp [hx])) hb
theorem mag_dec {u : Nat} (hu : u < 1844674407370955162) : parseMag (decDigits u) = .ok u := by
  unfold parseMag
  rw [if_neg (dec_ne u)]
  have := uint_digs (decDigits u) 0 (dec_digs u) (by rw [Nat.zero_mul, Nat.zero_add, numV_dec]; exact hu)
  rwa [Nat.zero_mul, Nat.zero_add, numV_dec] at this
theorem atoi_num {n : Int} (h : n.natAbs < 1000000) : atoiAll (numT n) = .ok n := by
  unfold numT
  by_cases h0 : n < 0
  · rw [if_pos h0, atoiAll_minus, mag_dec (by omega)]
    show (if _ then NumEnd.range else _) = _
    rw [if_neg (by omega)]
    congr 1
    omega
  · rw [if_neg h0]
    match hd : decDigits n.natAbs, dec_ne n.natAbs with
    | c :: r, _ =>
      have hc : isDig c = true := dec_digs n.natAbs c (by rw [hd]; simp)
      have h1 := hc
      unfold isDig at h1
      simp only [Bool.and_eq_true, decide_eq_true_eq] at h1
      rw [atoiAll_plain c r (by omega) (by omega), ← hd, mag_dec (by omega)]
      show (if _ then NumEnd.range else _) = _
      rw [if_neg (by omega)]
      congr 1
      omega
end Go.Cal
