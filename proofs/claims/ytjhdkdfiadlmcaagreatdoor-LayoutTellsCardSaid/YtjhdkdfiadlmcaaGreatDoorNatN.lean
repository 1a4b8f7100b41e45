/- The nat layer: Pow. Conditions: none. -/
import Derived.Test.YtjhdkdfiadlmcaaGreatDoorNatM
namespace Go.Proofs.YtjhdkdfiadlmcaaGreatDoor
open Go.RowKit Go.Cal
/-- At the head of a round. -/
def PowRel (w wr : World) (base n0 : Nat) (nv ov sv : Value) : Prop :=
  ∃ (n q p : Nat) (A1 : Option Addr) (c1 : Nat) (z1 : List Nat) (A2 : Option Addr) (c2 : Nat) (z2 : List Nat), nv = .int .i64 n ∧ ov = .slice A1 z1.length c1 ∧ sv = .slice A2 z2.length c2 ∧
    GotW wr w.heap.size A1 c1 z1 ∧ Nrm z1 (base ^ q) ∧ GotW wr w.heap.size A2 c2 z2 ∧ Nrm z2 (base ^ p) ∧ Below w.heap.size w wr ∧ q + p * n = n0 ∧ p ≤ n0 + 1 ∧ 1 ≤ p
theorem pow_len' {z : List Nat} {base p k : Nat} (hb : base < 18446744073709551616) (hp : p ≤ k) (h : Nrm z (base ^ p)) : z.length ≤ k + 1 := by
  refine h.length_le ?_
  have h1 : base ^ p ≤ 18446744073709551616 ^ p := Nat.pow_le_pow_left (by omega) p
  have h2 : 18446744073709551616 ^ p ≤ 18446744073709551616 ^ k := Nat.pow_le_pow_right (by omega) hp
  have h3 : 18446744073709551616 ^ k < 18446744073709551616 ^ (k + 1) := Nat.pow_lt_pow_right (by omega) (by omega)
  exact Nat.lt_of_le_of_lt (Nat.le_trans h1 h2) h3
theorem pow_len {z : List Nat} {base p : Nat} (hb : base < 18446744073709551616) (hp : p ≤ 10001) (h : Nrm z (base ^ p)) : z.length ≤ 10002 := pow_len' hb hp h
end Go.Proofs.YtjhdkdfiadlmcaaGreatDoor
