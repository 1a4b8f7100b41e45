/- 'few' is a copy of so many words. Condition: a slice that is nil has no room. -/
import Derived.Test.YtjhdkdfiadlmcaaGreatDoorNatS
namespace Go.Proofs.YtjhdkdfiadlmcaaGreatDoor
open Go.RowKit Go.Cal
/-- A slice of words that came in. -/
def ArgN (w : World) (v : Value) : Prop := ∃ A c xs, v = .slice A (xs : List Nat).length c ∧ RdU w w.heap.size A xs ∧ (A = none → c = 0) ∧ xs.length ≤ c ∧ c ≤ maxLen ∧ Dig 18446744073709551616 xs
theorem cmp_is {B w : World} {l : List (Value × Nat × Nat)} {v1 v2 : Value} {k1 k2 X Y : Nat} (r : Int) (h : Live B w l) (m1 : (v1, k1, X) ∈ l) (m2 : (v2, k2, Y) ∈ l) (b1 : k1 ≤ 1048576) (b2 : k2 ≤ 1048576) (hr : cmpV (X : Int) (Y : Int) = r) :
    Calls Tryz.prog 20 #[v1, v2] w fun e w' => e = .returned (.int .i64 r) ∧ Live B w' l := by
  subst hr
  exact cmp_l h m1 m2 b1 b2
theorem cmp_same {B w : World} {l : List (Value × Nat × Nat)} {v1 v2 : Value} {k1 k2 X Y : Nat} (h : Live B w l) (m1 : (v1, k1, X) ∈ l) (m2 : (v2, k2, Y) ∈ l) (b1 : k1 ≤ 1048576) (b2 : k2 ≤ 1048576) (hr : X = Y) :
    Calls Tryz.prog 20 #[v1, v2] w fun e w' => e = .returned (.int .i64 0) ∧ Live B w' l :=
  cmp_is 0 h m1 m2 b1 b2 (cmpV_eq (by rw [hr]))
end Go.Proofs.YtjhdkdfiadlmcaaGreatDoor
