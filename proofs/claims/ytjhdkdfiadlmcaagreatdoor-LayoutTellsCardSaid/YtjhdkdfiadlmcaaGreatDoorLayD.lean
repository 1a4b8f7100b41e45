/- Plain: points and exponents of a text of digits; whole numbers of few digits. Conditions: none. -/
import Derived.Test.YtjhdkdfiadlmcaaGreatDoorLayC
namespace Go.Cal
open Go.Lib
theorem count_no {c : UInt8} {l : List UInt8} (h : c ∉ l) : l.count c = 0 := List.count_eq_zero.2 h
theorem LyP.counts {S W P : List UInt8} {k k0 : Int} {pt ex : Bool} {a b : Nat} (h : LyP S k pt ex W P k0 a b) (hd : ∀ c ∈ S, isDig c = true) : (lyB S k).count 46 = pt.toNat ∧ (lyB S k).count 101 = ex.toNat := by
  have hW := h.digW hd
  have hP := h.digP hd
  have w1 := count_no (dig_no hW (c := 46) (by decide))
  have w2 := count_no (dig_no hW (c := 101) (by decide))
  have p1 := count_no (dig_no hP (c := 46) (by decide))
  have p2 := count_no (dig_no hP (c := 101) (by decide))
  have n1 := count_no (numT_no (c := 46) (by decide) (by decide) k0)
  have n2 := count_no (numT_no (c := 101) (by decide) (by decide) k0)
  rw [h.eq]
  simp only [List.count_append, w1, w2]
  refine ⟨?_, ?_⟩
  · cases pt <;> cases ex <;> simp [p1, n1]
  · cases pt <;> cases ex <;> simp [p2, n2]
theorem lyS_counts {d : Nat} {k : Int} (h : DRight d k) : ∃ pt ex : Bool, (lyS d k).count 46 = pt.toNat ∧ (lyS d k).count 101 = ex.toNat ∧
    (ex = true ↔ 0 < d ∧ (21 < ((decDigits d).length : Int) + k ∨ ((decDigits d).length : Int) + k < -5)) ∧
    (pt = true ↔ 0 < d ∧ ((ex = true ∧ 1 < (decDigits d).length) ∨ (ex = false ∧ k < 0))) := by
  rcases h.cases with ⟨rfl, rfl⟩ | h
  · exact ⟨false, false, by decide, by decide, by simp, by simp⟩
  · obtain ⟨pt, ex, W, P, k0, a, b, hp⟩ := h.parts
    obtain ⟨c1, c2⟩ := hp.counts (dec_digs d)
    refine ⟨pt, ex, ?_, ?_, ?_, ?_⟩
    · rw [lyS_pos h.pos]; exact c1
    · rw [lyS_pos h.pos]; exact c2
    · rw [hp.far]
      exact ⟨fun x => ⟨h.pos, x⟩, fun x => x.2⟩
    · rw [hp.point]
      exact ⟨fun x => ⟨h.pos, x⟩, fun x => x.2⟩
/-- Noughts behind a numeral. -/
theorem dec_tens (d k : Nat) (h : 0 < d) : decDigits (d * 10 ^ k) = decDigits d ++ List.replicate k 48 := by
  have := dec_padd k d 0 h (Nat.pow_pos (by decide))
  rw [Nat.add_zero] at this
  rw [this, padd_zero]
/-- A whole number of few digits is written as it is. -/
theorem lyS_whole {d k n : Nat} (hn : d * 10 ^ k = n) (h0 : d = 0 → k = 0) (ht : 0 < d → d % 10 ≠ 0) (hl : n < 18446744073709551616) : DRight d k ∧ lyS d (k : Int) = decDigits n := by
  rcases Nat.eq_zero_or_pos d with rfl | hd
  · have := h0 rfl
    subst this
    have : n = 0 := by rw [← hn]
    subst this
    exact ⟨.inl ⟨rfl, rfl⟩, by rw [show decDigits 0 = [48] by rw [dec_small (by decide)]; rfl]; rfl⟩
  · have e := dec_tens d k hd
    rw [hn] at e
    have h20 : (decDigits n).length ≤ 20 := (padd_dec 20 n (by decide) (by omega)).2
    have hlen := congrArg List.length e
    rw [List.length_append, List.length_replicate] at hlen
    refine ⟨.inr ⟨hd, ht hd, by omega, by omega, by omega⟩, ?_⟩
    rw [lyS_pos hd, e]
    unfold lyB
    rw [if_pos ⟨by omega, by omega⟩]
    rw [Int.toNat_natCast]
end Go.Cal
