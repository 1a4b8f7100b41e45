/- Small laws on worlds, and on regions that draw their order while callees make new memory. Conditions: none. -/
import Derived.WalkKit
import Derived.WalkSpells
import Derived.WalkLawsBesides
import Derived.Deep.QuietTactic
import Derived.BigQuiet
import Derived.Lib.Hide
import Derived.Deep.RegionWith
import Derived.LoopN
namespace Go.Cal
open Go.RowKit

theorem bcell {W w1 : World} (hb : Below W.heap.size W w1) : (∀ b o, b < W.heap.size → w1.cell? ⟨b, o, none⟩ = W.cell? ⟨b, o, none⟩) ∧ (∀ b o, b < W.heap.size → w1.frozen? ⟨b, o, none⟩ = W.frozen? ⟨b, o, none⟩) :=
  ⟨fun b o h => hb.cell (p := ⟨b, o, none⟩) h, fun b o h => hb.frozen (p := ⟨b, o, none⟩) h⟩

/-- A world that comes behind W: below block B all is as it was. -/
structure Later (B : Nat) (W : World) where
  val : World
  prop : Below B W val

instance Later.inhab (B : Nat) (W : World) : Nonempty (Later B W) := ⟨⟨W, Below.refl _ _⟩⟩

theorem Later.cell {B : Nat} {W : World} (u : Later B W) (b o : Nat) (v : Value) (hb : b < B) (h : W.cell? ⟨b, o, none⟩ = some v) : u.val.cell? ⟨b, o, none⟩ = some v := by
  rw [u.prop.cell (p := ⟨b, o, none⟩) hb]; exact h

/-- A new block of seven cells, in every later world. -/
theorem Later.box7 {W : World} {B : Nat} (u : Later B W) (w : World) (t : TypeId) (a b c d e f g : Value) (hW : w.alloc (.cells #[a, b, c, d, e, f, g] t) = W) (hB : B = w.heap.size + 1 := by rfl) :
    u.val.cell? ⟨w.heap.size, 0, none⟩ = some a ∧ u.val.cell? ⟨w.heap.size, 1, none⟩ = some b ∧ u.val.cell? ⟨w.heap.size, 2, none⟩ = some c ∧ u.val.cell? ⟨w.heap.size, 3, none⟩ = some d ∧
    u.val.cell? ⟨w.heap.size, 4, none⟩ = some e ∧ u.val.cell? ⟨w.heap.size, 5, none⟩ = some f ∧ u.val.cell? ⟨w.heap.size, 6, none⟩ = some g := by
  subst hW; subst hB
  refine ⟨?_, ?_, ?_, ?_, ?_, ?_, ?_⟩ <;> exact u.cell _ _ _ (by omega) (by simp)
theorem forall7 {α : Sort _} {a b c d e f g : α → Prop} (h : ∀ x, a x ∧ b x ∧ c x ∧ d x ∧ e x ∧ f x ∧ g x) : (∀ x, a x) ∧ (∀ x, b x) ∧ (∀ x, c x) ∧ (∀ x, d x) ∧ (∀ x, e x) ∧ (∀ x, f x) ∧ (∀ x, g x) :=
  ⟨fun x => (h x).1, fun x => (h x).2.1, fun x => (h x).2.2.1, fun x => (h x).2.2.2.1, fun x => (h x).2.2.2.2.1, fun x => (h x).2.2.2.2.2.1, fun x => (h x).2.2.2.2.2.2⟩

theorem chain {w a b : World} (h : Below w.heap.size w a) (k : Below a.heap.size a b) : Below w.heap.size w b := h.trans (k.mono h.size)
theorem chainA {w a : World} (h : Below w.heap.size w a) (o : Obj) : Below w.heap.size w (a.alloc o) := h.alloc h.size o

variable {P : Program}

/-- A region that draws its order, whose operations read and whose callees make new memory alone: one walk, in the order of the text. -/
theorem wp_region_later {id : Nat} {Q : Exit → Act → World → Prop} {a : Act} {w W : World} {l : List Oper} {B : Nat} (hm : P.follows .mixedOrders = true) (hB : Region.lexB .any l.toArray = true) (hb : Below B W w)
    (h : wpQuiet P l.toArray (fun w' => ∃ u : Later B W, w' = u.val) (fun a' => ∀ w', Below B W w' → Q .normal a' w') l a) : (Code.region id l.toArray true).wp P Q a w := by
  refine wp_region_quiet (C := fun w' => ∃ u : Later B W, w' = u.val) hm hB ⟨⟨w.drew, hb.drew⟩, rfl⟩ ?_
  have e : (fun a' => ∀ w', (∃ u : Later B W, w' = u.val) → Q .normal a' w') = (fun a' => ∀ w', Below B W w' → Q .normal a' w') := by
    funext a'
    exact propext ⟨fun h w' hw => h w' ⟨⟨w', hw⟩, rfl⟩, fun h w' ⟨u, hu⟩ => hu ▸ h _ u.prop⟩
  rw [e]
  simpa using h

theorem Calls.later_of {f : FuncId} {args : Array Value} {B : Nat} {W : World} {u : Later B W} {v : Value} (hB : B ≤ W.heap.size)
    (h : Calls P f args u.val fun e w' => e = .returned v ∧ Below u.val.heap.size u.val w') : Calls P f args u.val fun e w'' => e = .returned v ∧ ∃ u' : Later B W, w'' = u'.val :=
  h.mono fun _ w' ⟨he, hb⟩ => ⟨he, ⟨w', u.prop.trans (hb.mono (Nat.le_trans hB u.prop.size))⟩, rfl⟩

theorem ret_int {k : IntKind} {a b : Int} (h : a = b) : Ending.returned (.int k a) = .returned (.int k b) := by rw [h]
theorem wrap_u64 (a : Int) : IntKind.u64.wrap a = a % 18446744073709551616 := by simp [IntKind.wrap, IntKind.bits, IntKind.signed]
theorem pow_le63 (n : Nat) (h : n ≤ 63) : (2 : Int) ^ n ≤ 9223372036854775808 := by
  have : (2:Nat)^n ≤ 2^63 := Nat.pow_le_pow_right (by omega) h
  have e : ((2:Nat)^n : Nat) = ((2:Int)^n) := by push_cast; rfl
  omega
theorem pow_pos (n : Nat) : (0 : Int) < 2 ^ n := Int.pow_pos (by omega)
theorem nat_andNot_mask (p w : Nat) (hp : p < 18446744073709551616) (hw : w ≤ 64) : p &&& (18446744073709551615 - (2 ^ w - 1)) = p / 2 ^ w * 2 ^ w := by
  have h2 : 18446744073709551615 - (2 ^ w - 1) = 2 ^ 64 - ((2 ^ w - 1) + 1) := by
    have := Nat.one_le_two_pow (n := w)
    omega
  have h3 : 2 ^ w - 1 < 2 ^ 64 := by
    have := Nat.pow_le_pow_right (n := 2) (by omega) hw
    have := Nat.one_le_two_pow (n := w)
    omega
  rw [h2, ← Nat.shiftRight_eq_div_pow, ← Nat.shiftLeft_eq]
  apply Nat.eq_of_testBit_eq
  intro i
  rw [Nat.testBit_and, Nat.testBit_two_pow_sub_succ h3, Nat.testBit_two_pow_sub_one, Nat.testBit_shiftLeft, Nat.testBit_shiftRight]
  by_cases hi : i < w
  · simp [hi, show ¬ w ≤ i by omega]
  · by_cases hj : i < 64
    · simp [hi, hj, show w ≤ i by omega]
    · have : p.testBit i = false := Nat.testBit_lt_two_pow (Nat.lt_of_lt_of_le hp (Nat.pow_le_pow_right (n := 2) (i := 64) (j := i) (by omega) (by omega)))
      simp [this, hi, show w ≤ i by omega]
theorem andNot_mask (p : Int) (w : Nat) (h0 : 0 ≤ p) (h1 : p < 18446744073709551616) (hw : w ≤ 64) : bits .andNot .u64 p (2 ^ w - 1) = p / 2 ^ w * 2 ^ w := by
  have hq := pow_pos w
  have hm : (2 : Int) ^ w - 1 < 18446744073709551616 := by
    have : (2:Nat)^w ≤ 2^64 := Nat.pow_le_pow_right (by omega) hw
    have e : ((2:Nat)^w : Nat) = ((2:Int)^w) := by push_cast; rfl
    omega
  rw [u64_andNot p _ h0 h1 (by omega) hm]
  obtain ⟨n, rfl⟩ := Int.eq_ofNat_of_zero_le h0
  have e : ((2 : Int) ^ w - 1).toNat = 2 ^ w - 1 := by
    have e : ((2:Nat)^w : Nat) = ((2:Int)^w) := by push_cast; rfl
    omega
  rw [e, Int.toNat_natCast, nat_andNot_mask n w (by omega) hw]
  push_cast; rfl
end Go.Cal
