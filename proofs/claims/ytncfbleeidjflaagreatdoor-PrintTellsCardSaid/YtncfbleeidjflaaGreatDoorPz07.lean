/- Small laws on worlds, and on regions that draw their order while callees make new memory. Conditions: none. -/
/- Slices of uint64 in memory: a slice that reads as a list of numbers; a block that is such a list, whole. Conditions: none. -/
/- The nat layer, first part: a word at a place; what is left without noughts. Conditions: lengths below 2^40. -/
/- The nat layer, second part: order and bits. Conditions: lengths below 2^40. -/
import Derived.WalkKit
import Derived.WalkSpells
import Derived.WalkLawsBesides
import Derived.Deep.QuietTactic
import Derived.BigQuiet
import Derived.Lib.Hide
import Derived.Deep.RegionWith
import Derived.LoopN
import Derived.Test.YtncfbleeidjflaaGreatDoorPz00
import Derived.Laws.MakeOwn
import Derived.Laws.OwnMore
import Derived.Test.YtncfbleeidjflaaGreatDoorRows
namespace Go.Cal
open Go.RowKit

theorem bcell {W w1 : World} (hb : Below W.heap.size W w1) : (∀ b o, b < W.heap.size → w1.cell? ⟨b, o, none⟩ = W.cell? ⟨b, o, none⟩) ∧ (∀ b o, b < W.heap.size → w1.frozen? ⟨b, o, none⟩ = W.frozen? ⟨b, o, none⟩) :=
  ⟨fun b o h => hb.cell (p := ⟨b, o, none⟩) h, fun b o h => hb.frozen (p := ⟨b, o, none⟩) h⟩

/-- A world that comes behind W: below block B all is as it was. -/
structure Later (B : Nat) (W : World) where
  val : World
  prop : Below B W val

instance Later.inhab (B : Nat) (W : World) : Nonempty (Later B W) := ⟨⟨W, Below.refl _ _⟩⟩

theorem Later.cell {B : Nat} {W : World} (u : Later B W) (b o : Nat) (v : Value) (hb : b < B) (h : W.cell? ⟨b, o, none⟩ = some v) : u.val.cell? ⟨b, o, none⟩ = some v := by
  rw [u.prop.cell (p := ⟨b, o, none⟩) hb]; exact h

/-- A new block of seven cells, in every later world. -/
theorem Later.box7 {W : World} {B : Nat} (u : Later B W) (w : World) (t : TypeId) (a b c d e f g : Value) (hW : w.alloc (.cells #[a, b, c, d, e, f, g] t) = W) (hB : B = w.heap.size + 1 := by rfl) :
    u.val.cell? ⟨w.heap.size, 0, none⟩ = some a ∧ u.val.cell? ⟨w.heap.size, 1, none⟩ = some b ∧ u.val.cell? ⟨w.heap.size, 2, none⟩ = some c ∧ u.val.cell? ⟨w.heap.size, 3, none⟩ = some d ∧
    u.val.cell? ⟨w.heap.size, 4, none⟩ = some e ∧ u.val.cell? ⟨w.heap.size, 5, none⟩ = some f ∧ u.val.cell? ⟨w.heap.size, 6, none⟩ = some g := by
  subst hW; subst hB
  refine ⟨?_, ?_, ?_, ?_, ?_, ?_, ?_⟩ <;> exact u.cell _ _ _ (by omega) (by simp)
theorem forall7 {α : Sort _} {a b c d e f g : α → Prop} (h : ∀ x, a x ∧ b x ∧ c x ∧ d x ∧ e x ∧ f x ∧ g x) : (∀ x, a x) ∧ (∀ x, b x) ∧ (∀ x, c x) ∧ (∀ x, d x) ∧ (∀ x, e x) ∧ (∀ x, f x) ∧ (∀ x, g x) :=
  ⟨fun x => (h x).1, fun x => (h x).2.1, fun x => (h x).2.2.1, fun x => (h x).2.2.2.1, fun x => (h x).2.2.2.2.1, fun x => (h x).2.2.2.2.2.1, fun x => (h x).2.2.2.2.2.2⟩

theorem chain {w a b : World} (h : Below w.heap.size w a) (k : Below a.heap.size a b) : Below w.heap.size w b := h.trans (k.mono h.size)
variable {P : Program}

/-- A region that draws its order, whose operations read and whose callees make new memory alone: one walk, in the order of the text. -/
theorem wp_region_later {id : Nat} {Q : Exit → Act → World → Prop} {a : Act} {w W : World} {l : List Oper} {B : Nat} (hm : P.follows .mixedOrders = true) (hB : Region.lexB .any l.toArray = true) (hb : Below B W w)
    (h : wpQuiet P l.toArray (fun w' => ∃ u : Later B W, w' = u.val) (fun a' => ∀ w', Below B W w' → Q .normal a' w') l a) : (Code.region id l.toArray true).wp P Q a w := by
  refine wp_region_quiet (C := fun w' => ∃ u : Later B W, w' = u.val) hm hB ⟨⟨w.drew, hb.drew⟩, rfl⟩ ?_
  have e : (fun a' => ∀ w', (∃ u : Later B W, w' = u.val) → Q .normal a' w') = (fun a' => ∀ w', Below B W w' → Q .normal a' w') := by
    funext a'
    exact propext ⟨fun h w' hw => h w' ⟨⟨w', hw⟩, rfl⟩, fun h w' ⟨u, hu⟩ => hu ▸ h _ u.prop⟩
  rw [e]
  simpa using h

theorem Calls.later_of {f : FuncId} {args : Array Value} {B : Nat} {W : World} {u : Later B W} {v : Value} (hB : B ≤ W.heap.size)
    (h : Calls P f args u.val fun e w' => e = .returned v ∧ Below u.val.heap.size u.val w') : Calls P f args u.val fun e w'' => e = .returned v ∧ ∃ u' : Later B W, w'' = u'.val :=
  h.mono fun _ w' ⟨he, hb⟩ => ⟨he, ⟨w', u.prop.trans (hb.mono (Nat.le_trans hB u.prop.size))⟩, rfl⟩

theorem ret_int {k : IntKind} {a b : Int} (h : a = b) : Ending.returned (.int k a) = .returned (.int k b) := by rw [h]
theorem wrap_u64 (a : Int) : IntKind.u64.wrap a = a % 18446744073709551616 := by simp [IntKind.wrap, IntKind.bits, IntKind.signed]
theorem pow_le63 (n : Nat) (h : n ≤ 63) : (2 : Int) ^ n ≤ 9223372036854775808 := by
  have : (2:Nat)^n ≤ 2^63 := Nat.pow_le_pow_right (by omega) h
  have e : ((2:Nat)^n : Nat) = ((2:Int)^n) := by push_cast; rfl
  omega
theorem pow_pos (n : Nat) : (0 : Int) < 2 ^ n := Int.pow_pos (by omega)
theorem nat_andNot_mask (p w : Nat) (hp : p < 18446744073709551616) (hw : w ≤ 64) : p &&& (18446744073709551615 - (2 ^ w - 1)) = p / 2 ^ w * 2 ^ w := by
  have h2 : 18446744073709551615 - (2 ^ w - 1) = 2 ^ 64 - ((2 ^ w - 1) + 1) := by
    have := Nat.one_le_two_pow (n := w)
    omega
  have h3 : 2 ^ w - 1 < 2 ^ 64 := by
    have := Nat.pow_le_pow_right (n := 2) (by omega) hw
    have := Nat.one_le_two_pow (n := w)
    omega
  rw [h2, ← Nat.shiftRight_eq_div_pow, ← Nat.shiftLeft_eq]
  apply Nat.eq_of_testBit_eq
  intro i
  rw [Nat.testBit_and, Nat.testBit_two_pow_sub_succ h3, Nat.testBit_two_pow_sub_one, Nat.testBit_shiftLeft, Nat.testBit_shiftRight]
  by_cases hi : i < w
  · simp [hi, show ¬ w ≤ i by omega]
  · by_cases hj : i < 64
    · simp [hi, hj, show w ≤ i by omega]
    · have : p.testBit i = false := Nat.testBit_lt_two_pow (Nat.lt_of_lt_of_le hp (Nat.pow_le_pow_right (n := 2) (i := 64) (j := i) (by omega) (by omega)))
      simp [this, hi, show w ≤ i by omega]
theorem andNot_mask (p : Int) (w : Nat) (h0 : 0 ≤ p) (h1 : p < 18446744073709551616) (hw : w ≤ 64) : bits .andNot .u64 p (2 ^ w - 1) = p / 2 ^ w * 2 ^ w := by
  have hq := pow_pos w
  have hm : (2 : Int) ^ w - 1 < 18446744073709551616 := by
    have : (2:Nat)^w ≤ 2^64 := Nat.pow_le_pow_right (by omega) hw
    have e : ((2:Nat)^w : Nat) = ((2:Int)^w) := by push_cast; rfl
    omega
  rw [u64_andNot p _ h0 h1 (by omega) hm]
  obtain ⟨n, rfl⟩ := Int.eq_ofNat_of_zero_le h0
  have e : ((2 : Int) ^ w - 1).toNat = 2 ^ w - 1 := by
    have e : ((2:Nat)^w : Nat) = ((2:Int)^w) := by push_cast; rfl
    omega
  rw [e, Int.toNat_natCast, nat_andNot_mask n w (by omega) hw]
  push_cast; rfl
end Go.Cal
namespace Go.Cal
open Go.RowKit

/-- The slice value at A reads as the numbers xs; it lies below block B. -/
structure RdU (w : World) (B : Nat) (A : Option Addr) (xs : List Nat) : Prop where
  place : xs = [] ∨ ∃ b off, A = some ⟨b, off, none⟩ ∧ b < B
  cells : ∀ b off, A = some ⟨b, off, none⟩ → ∀ i, i < xs.length → w.cell? ⟨b, off + i, none⟩ = some (.int .u64 ((xs.getD i 0 : Nat) : Int))

section
variable {w w' : World} {B B' : Nat} {A : Option Addr} {xs : List Nat}
theorem RdU.nil : RdU w B A [] := ⟨.inl rfl, fun _ _ _ i hi => by simp at hi⟩
theorem RdU.at (h : RdU w B A xs) {i : Nat} (hi : i < xs.length) : ∃ b off, A = some ⟨b, off, none⟩ ∧ b < B ∧ ∀ j, j < xs.length → w.cell? ⟨b, off + j, none⟩ = some (.int .u64 ((xs.getD j 0 : Nat) : Int)) := by
  rcases h.place with rfl | ⟨b, off, e, hb⟩
  · simp at hi
  · exact ⟨b, off, e, hb, h.cells b off e⟩
theorem RdU.keep (h : RdU w B A xs) (hk : ∀ b o, b < B → w'.cell? ⟨b, o, none⟩ = w.cell? ⟨b, o, none⟩) : RdU w' B A xs := by
  rcases h.place with rfl | ⟨b, off, e, hb⟩
  · exact .nil
  · refine ⟨.inr ⟨b, off, e, hb⟩, fun b' off' e' i hi => ?_⟩
    rw [e] at e'
    injection e' with e'
    injection e' with e1 e2
    subst e1; subst e2
    rw [hk _ _ hb]
    exact h.cells _ _ e i hi
theorem RdU.below (h : RdU w B A xs) (hb : Below B w w') : RdU w' B A xs := h.keep fun b o hp => hb.cell (p := ⟨b, o, none⟩) hp
theorem RdU.more (h : RdU w B A xs) (hB : B ≤ B') : RdU w B' A xs := ⟨h.place.imp id fun ⟨b, off, e, hb⟩ => ⟨b, off, e, by omega⟩, h.cells⟩
theorem RdU.alloc (h : RdU w B A xs) (hB : B ≤ w.heap.size) (o : Obj) : RdU (w.alloc o) B A xs := h.below ((Below.refl _ _).alloc hB o)
theorem RdU.drewN (h : RdU w B A xs) (n : Nat) : RdU (w.drewN n) B A xs := ⟨h.place, h.cells⟩
theorem RdU.take (h : RdU w B A xs) (n : Nat) : RdU w B A (xs.take n) := by
  refine ⟨?_, fun b off e i hi => ?_⟩
  · rcases h.place with rfl | h
    · exact .inl (by simp)
    · exact .inr h
  · simp at hi
    rw [h.cells b off e i (by omega)]
    simp [List.getD_eq_getElem?_getD, show i < n by omega]
end

/-- The world behind some draws. -/
def Drawn (w w' : World) : Prop := ∃ n, w' = w.drewN n
theorem Drawn.refl (w : World) : Drawn w w := ⟨0, rfl⟩
theorem Drawn.drewN {w w' : World} (h : Drawn w w') (n : Nat) : Drawn w (w'.drewN n) := by
  obtain ⟨k, rfl⟩ := h
  exact ⟨k + n, World.drewN_drewN _ _ _⟩
theorem Drawn.trans {w w' w'' : World} (h : Drawn w w') (k : Drawn w' w'') : Drawn w w'' := by
  obtain ⟨n, rfl⟩ := k
  exact h.drewN n
theorem Drawn.below {w w' : World} (h : Drawn w w') (B : Nat) : Below B w w' := by
  obtain ⟨k, rfl⟩ := h
  exact ⟨rfl, rfl, rfl, Nat.le_refl _, fun _ _ => rfl⟩
theorem RdU.drawn {w w' : World} {B : Nat} {A : Option Addr} {xs : List Nat} (h : RdU w B A xs) (hd : Drawn w w') : RdU w' B A xs := by
  obtain ⟨k, rfl⟩ := hd
  exact h.drewN k
def lU (l : List Nat) : List Value := l.map fun x : Nat => Value.int .u64 (x : Int)

/-- Block g begins with the numbers L, of element type t, none frozen. -/
def BlkU (w : World) (g : Nat) (t : TypeId) (L : List Nat) : Prop := ∃ cs : Array Value, w.heap[g]? = some (.cells cs t (0, 0)) ∧ ∀ i, i < L.length → cs[i]? = some (.int .u64 ((L.getD i 0 : Nat) : Int))

section
variable {w w' : World} {g : Nat} {t : TypeId} {L : List Nat}
theorem lU_at (L : List Nat) (i : Nat) (hi : i < L.length) : (lU L)[i]? = some (.int .u64 ((L.getD i 0 : Nat) : Int)) := by
  simp [lU, List.getD_eq_getElem?_getD, hi]
theorem BlkU.of_list (h : w.heap[g]? = some (.cells (lU L).toArray t (0, 0))) : BlkU w g t L :=
  ⟨_, h, fun i hi => by rw [List.getElem?_toArray]; exact lU_at L i hi⟩
theorem BlkU.lt (h : BlkU w g t L) : g < w.heap.size := by
  obtain ⟨cs, h, _⟩ := h
  exact (Array.getElem?_eq_some_iff.1 h).1
theorem BlkU.cell (h : BlkU w g t L) (i : Nat) (hi : i < L.length) : w.cell? ⟨g, i, none⟩ = some (.int .u64 ((L.getD i 0 : Nat) : Int)) := by
  obtain ⟨cs, h, hc⟩ := h
  rw [cell_of_row w g i _ t (0, 0) h]
  exact hc i hi
theorem BlkU.frozen (h : BlkU w g t L) (i : Nat) : w.frozen? ⟨g, i, none⟩ = false := by
  obtain ⟨cs, h, _⟩ := h
  simp [World.frozen?, h]
theorem BlkU.made (w : World) (t : TypeId) (n : Nat) : BlkU (w.alloc (.cells (madeCells #[.int .u64 0] n) t)) w.heap.size t (List.replicate n 0) := by
  refine .of_list ?_
  rw [heap_alloc_new]
  congr 2
  apply Array.ext'
  rw [toList_madeCells_one]
  simp [lU]
theorem BlkU.lit (w : World) (t : TypeId) (L : List Nat) (cs : Array Value) (h : cs = (lU L).toArray) : BlkU (w.alloc (.cells cs t)) w.heap.size t L := by
  refine .of_list ?_
  rw [heap_alloc_new, h]
theorem BlkU.drew (h : BlkU w g t L) : BlkU w.drew g t L := h
theorem BlkU.same (h : BlkU w g t L) (e : w'.heap[g]? = w.heap[g]?) : BlkU w' g t L := by
  obtain ⟨cs, h, hc⟩ := h
  exact ⟨cs, e.trans h, hc⟩
theorem BlkU.alloc (h : BlkU w g t L) (o : Obj) : BlkU (w.alloc o) g t L := h.same (Below.heap_alloc w o g h.lt)
theorem BlkU.set (h : BlkU w g t L) (i x : Nat) : BlkU (w.setCell ⟨g, i, none⟩ (.int .u64 (x : Int))) g t (L.set i x) := by
  obtain ⟨cs, h, hc⟩ := h
  refine ⟨cs.setIfInBounds i (.int .u64 (x : Int)), by simp [World.setCell, Array.getElem?_modify, h], fun j hj => ?_⟩
  rw [List.length_set] at hj
  have hcj := hc j hj
  have hjs : j < cs.size := (Array.getElem?_eq_some_iff.1 hcj).1
  rw [Array.getElem?_setIfInBounds]
  by_cases e : i = j
  · subst e
    simp [hjs, List.getD_eq_getElem?_getD, hj]
  · rw [if_neg e, hcj]
    simp [List.getD_eq_getElem?_getD, List.getElem?_set_ne e]
theorem BlkU.far (h : BlkU w g t L) {p : Addr} (hp : g ≠ p.block) (u : Value) : BlkU (w.setCell p u) g t L := h.same (Below.heap_setCell w p u g hp)
theorem BlkU.below {B : Nat} (h : BlkU w g t L) (hb : Below B w w') (hg : g < B) : BlkU w' g t L := h.same (hb.block g hg)
theorem BlkU.rd (h : BlkU w g t L) (off n : Nat) (hn : off + n ≤ L.length) : RdU w (g + 1) (some ⟨g, off, none⟩) ((L.drop off).take n) := by
  refine ⟨.inr ⟨g, off, rfl, by omega⟩, fun b off' e i hi => ?_⟩
  injection e with e
  injection e with e1 e2
  subst e1; subst e2
  simp at hi
  rw [h.cell (off + i) (by omega)]
  simp [List.getD_eq_getElem?_getD, show i < n by omega]
end

/-- Only block g, and what is new, has turned. -/
theorem only_set {a w : World} {g : Nat} (h : a.grownBy w (some g)) (i : Nat) (u : Value) : a.grownBy (w.setCell ⟨g, i, none⟩ u) (some g) :=
  ⟨h.os, h.tape, h.output, by simpa [World.setCell] using h.size, fun j hj hne => (Below.heap_setCell w ⟨g, i, none⟩ u j (fun e => hne (by rw [e]))).trans (h.block j hj hne)⟩
theorem only_drawn {a w w' : World} {row : Option Nat} (h : a.grownBy w row) (hd : Drawn w w') : a.grownBy w' row := by
  obtain ⟨k, rfl⟩ := hd
  exact ⟨h.os, h.tape, h.output, h.size, h.block⟩
theorem only_refl (w : World) (row : Option Nat) : w.grownBy w row := ⟨rfl, rfl, rfl, Nat.le_refl _, fun _ _ _ => rfl⟩
theorem RdU.only {w w' : World} {B g : Nat} {A : Option Addr} {xs : List Nat} (h : RdU w B A xs) (hg : w.grownBy w' (some g)) (hBg : B ≤ g) (hBw : B ≤ w.heap.size) : RdU w' B A xs :=
  h.keep fun b o hb => World.cell?_of_block (hg.block b (by omega) (fun e => by injection e with e; omega))
/-- A slice that the call has made: what it reads as; its cells may be written, and lie from block base on. -/
structure GotU (w : World) (base : Nat) (A : Option Addr) (c : Nat) (zs : List Nat) : Prop where
  rd : RdU w w.heap.size A zs
  cap : zs.length ≤ c
  small : c ≤ 1099511627776
  own : zs = [] ∨ ∃ b off, A = some ⟨b, off, none⟩ ∧ base ≤ b ∧ ∀ i, i < zs.length → w.frozen? ⟨b, off + i, none⟩ = false
  full : c = zs.length
/-- Words of a number, without noughts at the end. -/
structure Nrm (zs : List Nat) (N : Nat) : Prop where
  dig : Dig 18446744073709551616 zs
  top : Top zs
  val : vl 18446744073709551616 zs = N
theorem Nrm.length_le {zs : List Nat} {N k : Nat} (h : Nrm zs N) (hN : N < 18446744073709551616 ^ k) : zs.length ≤ k := by
  rcases Nat.lt_or_ge k zs.length with hlt | hge
  · exfalso
    have h1 := vl_pos (b := 18446744073709551616) h.top (by intro e; subst e; simp at hlt)
    rw [h.val] at h1
    have h2 : 18446744073709551616 ^ k ≤ 18446744073709551616 ^ (zs.length - 1) := Nat.pow_le_pow_right (by omega) (by omega)
    omega
  · exact hge
theorem Nrm.zero : Nrm [] 0 := ⟨fun x hx => by simp at hx, fun h => absurd rfl h, rfl⟩
theorem GotU.nil (w : World) (base : Nat) : GotU w base none 0 [] := ⟨.nil, Nat.le_refl _, by omega, .inl rfl, rfl⟩
theorem GotU.below {w w' : World} {base : Nat} {A : Option Addr} {c : Nat} {zs : List Nat} (h : GotU w base A c zs) (hb : Below w.heap.size w w') : GotU w' base A c zs := by
  refine ⟨(h.rd.below hb).more hb.size, h.cap, h.small, h.own.imp id ?_, h.full⟩
  rintro ⟨b, off, rfl, h1, h2⟩
  refine ⟨b, off, rfl, h1, fun i hi => ?_⟩
  obtain ⟨b', off', e, hlt, _⟩ := h.rd.at hi
  injection e with e
  injection e with e1 e2
  subst e1; subst e2
  rw [hb.frozen (p := ⟨b, off + i, none⟩) hlt]
  exact h2 i hi
theorem GotU.base {w : World} {base base' : Nat} {A : Option Addr} {c : Nat} {zs : List Nat} (h : GotU w base A c zs) (hb : base' ≤ base) : GotU w base' A c zs :=
  ⟨h.rd, h.cap, h.small, h.own.imp id fun ⟨b, off, e, h1, h2⟩ => ⟨b, off, e, by omega, h2⟩, h.full⟩
/-- The call returns a slice of its own that reads as the number N. -/
def RetN (w : World) (N : Nat) (e : Ending) (w' : World) : Prop :=
  ∃ A c zs, e = .returned (.slice A (zs : List Nat).length c) ∧ GotU w' w.heap.size A c zs ∧ Nrm zs N ∧ Below w.heap.size w w'
theorem BlkU.got {w : World} {g : Nat} {t : TypeId} {L : List Nat} (h : BlkU w g t L) (base n : Nat) (hb : base ≤ g) (hn : n ≤ L.length) (hs : n ≤ 1099511627776) : GotU w base (some ⟨g, 0, none⟩) n (L.take n) := by
  have e : (L.take n).length = n := by rw [List.length_take]; omega
  refine ⟨?_, by omega, hs, .inr ⟨g, 0, rfl, hb, fun i _ => by rw [Nat.zero_add]; exact h.frozen i⟩, e.symm⟩
  have := h.rd 0 n (by omega)
  exact this.more h.lt

/-- make, of as many elements as its room. -/
theorem run_makeN {P : Program} (t e : TypeId) (i : TypeInfo) (z : Value) (ht : P.underlying t = some (.slice e)) (hi : P.info? e = some i) (hz : i.zero = some z)
    (n : Nat) (hbytes : i.bytes * n ≤ 281474976710656) (h63 : n ≤ 9223372036854775807) (w : World) :
    (Instr.makeSlice t (.int .i64 (n : Int)) (.int .i64 (n : Int))).run P w = .ok (.slice (some ⟨w.heap.size, 0, none⟩) n n) (w.alloc (.cells (madeCells z.cells (n * i.size)) e)) := by
  have hb : (i.bytes : Int) * (n : Int) ≤ 281474976710656 := by
    have h : ((i.bytes * n : Nat) : Int) ≤ 281474976710656 := by omega
    rwa [Int.natCast_mul] at h
  have hr := run_make (P := P) w t e i z ht hi hz .i64 .i64 n n (by omega) (by omega) hb (by omega)
  simp only [Int.toNat_natCast] at hr
  exact hr
/-- make of uint64 words. -/
theorem run_makeU {P : Program} (t e : TypeId) (ht : P.underlying t = some (.slice e)) (hinfo : (P.info? e).map (fun i => (i.zero, i.size, i.bytes)) = some (some (.int .u64 0), 1, 8))
    (n : Nat) (h : n ≤ 1099511627776) (w : World) :
    (Instr.makeSlice t (.int .i64 (n : Int)) (.int .i64 (n : Int))).run P w = .ok (.slice (some ⟨w.heap.size, 0, none⟩) n n) (w.alloc (.cells (madeCells #[.int .u64 0] n) e)) := by
  obtain ⟨i, hi, hz0, hz1, hz2⟩ := info_parts hinfo
  have := run_makeN (P := P) t e i _ ht hi hz0 n (by rw [hz2]; omega) (by omega) w
  rw [hz1, Nat.mul_one] at this
  exact this
end Go.Cal
namespace Go.Proofs.YtncfbleeidjflaaGreatDoor
open Go.RowKit Go.Cal

theorem at_out (A : Option Addr) (n c : Nat) (i : Int) (w : World) (h : i < 0 ∨ (n : Int) ≤ i) :
    Calls Tryz.prog 106 #[.slice A n c, .int .i64 i] w fun e w' => e = .returned (.int .u64 0) ∧ w = w' := by
  rcases h with h | h
  · go_enter Tryz.func106, Tryz.ntmps106
    go_wp2
    go_ret
    exact ⟨rfl, rfl⟩
  · have h0 : ¬ i < 0 := by omega
    go_enter Tryz.func106, Tryz.ntmps106
    go_wp2
    go_ret
    exact ⟨rfl, rfl⟩
theorem at_in (b off n c : Nat) (i : Nat) (x : Int) (w : World) (hi : i < n) (hc : w.cell? ⟨b, off + i, none⟩ = some (.int .u64 x)) :
    Calls Tryz.prog 106 #[.slice (some ⟨b, off, none⟩) n c, .int .i64 i] w fun e w' => e = .returned (.int .u64 x) ∧ w = w' := by
  have h0 : ¬ (i : Int) < 0 := by omega
  have h1 : (i : Int) < (n : Int) := by omega
  go_enter Tryz.func106, Tryz.ntmps106
  go_wp2
  go_ret
  exact ⟨rfl, rfl⟩
/-- A word at a place; 0 behind the last one. -/
theorem at_any {B : Nat} {A : Option Addr} {xs : List Nat} (c : Nat) (i : Nat) (w : World) (h : RdU w B A xs) :
    Calls Tryz.prog 106 #[.slice A xs.length c, .int .i64 i] w fun e w' => e = .returned (.int .u64 (xs.getD i 0 : Nat)) ∧ w = w' := by
  by_cases hi : i < xs.length
  · obtain ⟨b, off, rfl, hb, hc⟩ := h.at hi
    exact at_in b off _ c i _ w hi (hc i hi)
  · rw [show xs.getD i 0 = 0 by simp [List.getD_eq_getElem?_getD, List.getElem?_eq_none (Nat.le_of_not_lt hi)]]
    exact at_out A _ c i w (.inr (by omega))
/-- What trim tells: the words without the noughts at the end, at the same place. -/
def TrimR (A : Option Addr) (xs : List Nat) (e : Ending) : Prop :=
  ∃ zs : List Nat, e = .returned (.slice A zs.length zs.length) ∧ (∃ n, zs = xs.take n) ∧ Top zs ∧ ∀ b, vl b zs = vl b xs
theorem TrimR.of {A : Option Addr} {xs : List Nat} {n : Nat} (h1 : n ≤ xs.length) (h2 : ∀ j, n ≤ j → j < xs.length → xs.getD j 0 = 0) (h3 : n = 0 ∨ xs.getD (n - 1) 0 ≠ 0) :
    TrimR A xs (.returned (.slice A n n)) := by
  refine ⟨xs.take n, ?_, ⟨n, rfl⟩, top_take h1 h3, fun b => vl_trim h2⟩
  rw [List.length_take, Nat.min_eq_left h1]
set_option maxHeartbeats 400000 in
theorem trim_any {B : Nat} {A : Option Addr} {xs : List Nat} (c : Nat) (w : World) (h : RdU w B A xs) (hc : xs.length ≤ c) (hn : xs.length ≤ 1099511627776) :
    Calls Tryz.prog 61 #[.slice A xs.length c] w fun e w' => TrimR A xs e ∧ w = w' := by
  go_enter Tryz.func61, Tryz.ntmps61
  go_wp2
  go_loop [3] (fun i => ∃ n : Nat, n ≤ xs.length ∧ i = .int .i64 n ∧ (∀ j, n ≤ j → j < xs.length → xs.getD j 0 = 0)) (fun i => (intOf i).toNat)
  case atStart => exact ⟨xs.length, by omega, rfl, fun j h1 h2 => by omega⟩
  case round =>
    obtain ⟨n, hn1, rfl, hz⟩ := hrel
    replace hz := Lib.hid hz
    by_cases h0 : n = 0
    · subst h0
      go_wp2
      go_ret
      exact ⟨.of (Nat.zero_le _) hz.out (.inl rfl), rfl⟩
    · obtain ⟨m, rfl⟩ : ∃ m, n = m + 1 := ⟨n - 1, by omega⟩
      obtain ⟨b, off, rfl, hb, hcell⟩ := h.at (i := m) (by omega)
      have hcm := hcell m (by omega)
      clear hcell h
      by_cases hx : xs.getD m 0 = 0
      · rw [hx] at hcm
        replace hx := Lib.hid hx
        go_wp2
        refine ⟨⟨m, by omega, rfl, fun j h1 h2 => ?_⟩, by simp [intOf]⟩
        rcases Nat.eq_or_lt_of_le h1 with rfl | h1
        · exact hx.out
        · exact hz.out j h1 h2
      · have hx0 : (((xs.getD m 0 : Nat) : Int) == 0) = false := by simpa using hx
        replace hx := Lib.hid hx
        generalize hxx : xs.getD m 0 = x at hcm hx0
        replace hxx := Lib.hid hxx
        go_wp2
        go_ret
        exact ⟨.of hn1 hz.out (.inr hx.out), rfl⟩
/-- What trim tells of words that are read. -/
def TrimN (w : World) (B : Nat) (A : Option Addr) (xs : List Nat) (e : Ending) : Prop :=
  ∃ zs : List Nat, e = .returned (.slice A zs.length zs.length) ∧ RdU w B A zs ∧ Top zs ∧ Dig 18446744073709551616 zs ∧ vl 18446744073709551616 zs = vl 18446744073709551616 xs ∧ zs.length ≤ xs.length
theorem trim_nat {B : Nat} {A : Option Addr} {xs : List Nat} (c : Nat) (w : World) (h : RdU w B A xs) (hc : xs.length ≤ c) (hn : xs.length ≤ 1099511627776) (hd : Dig 18446744073709551616 xs) :
    Calls Tryz.prog 61 #[.slice A xs.length c] w fun e w' => TrimN w B A xs e ∧ w = w' :=
  (trim_any c w h hc hn).mono fun _ _ ⟨⟨zs, h1, ⟨n, h2⟩, h3, h4⟩, hw⟩ => ⟨⟨zs, h1, h2 ▸ h.take n, h3, h2 ▸ dig_take hd n, h4 _, by rw [h2, List.length_take]; omega⟩, hw⟩
end Go.Proofs.YtncfbleeidjflaaGreatDoor
namespace Go.Proofs.YtncfbleeidjflaaGreatDoor
open Go.RowKit Go.Cal

set_option maxHeartbeats 400000 in
theorem cmpInt_any (a b : Int) (w : World) : Calls Tryz.prog 62 #[.int .i64 a, .int .i64 b] w fun e w' => e = .returned (.int .i64 (cmpV a b)) ∧ w = w' := by
  by_cases h1 : a < b
  · have hv := Lib.hid (show cmpV a b = -1 by unfold cmpV; rw [if_pos h1])
    go_enter Tryz.func62, Tryz.ntmps62
    go_wp2
    go_ret
    exact ⟨by rw [hv.out]; rfl, rfl⟩
  · by_cases h2 : b < a
    · have hv := Lib.hid (show cmpV a b = 1 by unfold cmpV; rw [if_neg h1, if_pos h2])
      go_enter Tryz.func62, Tryz.ntmps62
      go_wp2
      go_ret
      exact ⟨by rw [hv.out]; rfl, rfl⟩
    · have hv := Lib.hid (show cmpV a b = 0 by unfold cmpV; rw [if_neg h1, if_neg h2])
      go_enter Tryz.func62, Tryz.ntmps62
      go_wp2
      go_ret
      exact ⟨by rw [hv.out]; rfl, rfl⟩
set_option maxHeartbeats 400000 in
theorem cmpU64_any (a b : Int) (w : World) : Calls Tryz.prog 63 #[.int .u64 a, .int .u64 b] w fun e w' => e = .returned (.int .i64 (cmpV a b)) ∧ w = w' := by
  by_cases h1 : a < b
  · have hv := Lib.hid (show cmpV a b = -1 by unfold cmpV; rw [if_pos h1])
    go_enter Tryz.func63, Tryz.ntmps63
    go_wp2
    go_ret
    exact ⟨by rw [hv.out]; rfl, rfl⟩
  · by_cases h2 : b < a
    · have hv := Lib.hid (show cmpV a b = 1 by unfold cmpV; rw [if_neg h1, if_pos h2])
      go_enter Tryz.func63, Tryz.ntmps63
      go_wp2
      go_ret
      exact ⟨by rw [hv.out]; rfl, rfl⟩
    · have hv := Lib.hid (show cmpV a b = 0 by unfold cmpV; rw [if_neg h1, if_neg h2])
      go_enter Tryz.func63, Tryz.ntmps63
      go_wp2
      go_ret
      exact ⟨by rw [hv.out]; rfl, rfl⟩
set_option maxHeartbeats 1000000 in
theorem cmp_any {B : Nat} {A1 A2 : Option Addr} {xs ys : List Nat} (c1 c2 : Nat) (w : World) (h1 : RdU w B A1 xs) (h2 : RdU w B A2 ys) (hc1 : xs.length ≤ c1) (hc2 : ys.length ≤ c2) (hn1 : xs.length ≤ 1099511627776) (hn2 : ys.length ≤ 1099511627776)
    (d1 : Dig 18446744073709551616 xs) (d2 : Dig 18446744073709551616 ys) :
    Calls Tryz.prog 21 #[.slice A1 xs.length c1, .slice A2 ys.length c2] w fun e w' => e = .returned (.int .i64 (cmpV (vl 18446744073709551616 xs : Nat) (vl 18446744073709551616 ys : Nat))) ∧ Drawn w w' := by
  have hl1 := hn1
  have hl2 := hn2
  go_enter Tryz.func21, Tryz.ntmps21
  go_wp2_with fail
  refine (trim_nat _ _ h1 hc1 hn1 d1).mono ?_
  rintro e w1 ⟨⟨zs1, rfl, r1, t1, e1, v1, l1⟩, rfl⟩
  go_wp2_with fail
  refine (trim_nat _ _ h2 hc2 hn2 d2).mono ?_
  rintro e w1 ⟨⟨zs2, rfl, r2, t2, e2, v2, l2⟩, rfl⟩
  replace v1 := Lib.hid v1
  replace v2 := Lib.hid v2
  clear h1 h2
  go_wp2_with fail
  refine (cmpInt_any _ _ _).mono ?_
  rintro e w1 ⟨rfl, rfl⟩
  rcases cmpV_cases (zs1.length : Int) (zs2.length : Int) with ⟨hl, hv⟩ | ⟨hl, hv⟩ | ⟨hl, hv⟩
  · rw [hv]
    replace hv := Lib.hid hv
    go_wp2
    go_ret
    exact ⟨by rw [← v1.out, ← v2.out, cmpV_lt (by exact_mod_cast vl_lt_of_length (by omega) e1 t2 (by omega))]; rfl, .refl _⟩
  · rw [hv]
    replace hv := Lib.hid hv
    go_wp2
    go_ret
    exact ⟨by rw [← v1.out, ← v2.out, cmpV_gt (by exact_mod_cast vl_lt_of_length (by omega) e2 t1 (by omega))]; rfl, .refl _⟩
  · rw [hv]
    replace hv := Lib.hid hv
    replace hl := Lib.hid hl
    go_wp2
    go_loopw [6] (fun i wr => ∃ m : Nat, m ≤ zs1.length ∧ i = .int .i64 ((m : Int) - 1) ∧ Hid (zs1.drop m = zs2.drop m) ∧ Drawn w wr) (fun i _ => (intOf i + 1).toNat)
    case atStart => exact ⟨zs1.length, by omega, rfl, by have := hl.out; rw [List.drop_of_length_le (by omega), List.drop_of_length_le (by omega)]; rfl, .refl _⟩
    case round =>
      obtain ⟨m, hm, rfl, hd, hdw⟩ := hrel
      by_cases h0 : m = 0
      · subst h0
        go_wp2
        go_ret
        exact ⟨by rw [← v1.out, ← v2.out, cmpV_eq (by have := hd.out; simp at this; rw [this])]; rfl, hdw⟩
      · obtain ⟨m, rfl⟩ : ∃ k, m = k + 1 := ⟨m - 1, by omega⟩
        have hl' := hl.out
        obtain ⟨b1, o1, rfl, hb1, hc1⟩ := (r1.drawn hdw).at (i := m) (by omega)
        obtain ⟨b2, o2, rfl, hb2, hc2⟩ := (r2.drawn hdw).at (i := m) (by omega)
        have hx := hc1 m (by omega)
        have hy := hc2 m (by omega)
        have hi1 : (m : Int) < (zs1.length : Int) := by omega
        have hi2 : (m : Int) < (zs2.length : Int) := by omega
        have hl3 : zs1.length = zs2.length := by omega
        replace hl3 := Lib.hid hl3
        clear hc1 hc2 hl'
        rw [show ((m + 1 : Nat) : Int) - 1 = (m : Int) by omega]
        rcases cmpV_cases ((zs1.getD m 0 : Nat) : Int) ((zs2.getD m 0 : Nat) : Int) with ⟨hq, hv⟩ | ⟨hq, hv⟩ | ⟨hq, hv⟩
        · replace hq := Lib.hid hq
          have hcall := fun W : World => cmpU64_any ((zs1.getD m 0 : Nat) : Int) ((zs2.getD m 0 : Nat) : Int) W
          rw [hv] at hcall
          replace hcall := Lib.hid hcall
          replace hv := Lib.hid hv
          go_wp2_with fail
          go_quiet ((go_at_call 63; exact Calls.quiet_of_same ((hcall.out _).mono fun _ _ ⟨h, h'⟩ => ⟨h, h'.symm⟩)))
          go_wp2
          go_ret
          exact ⟨by rw [← v1.out, ← v2.out, cmpV_lt (by exact_mod_cast vl_lex e1 hl3.out (by omega) hd.out (by exact_mod_cast hq.out))]; rfl, hdw.drewN _⟩
        · replace hq := Lib.hid hq
          have hcall := fun W : World => cmpU64_any ((zs1.getD m 0 : Nat) : Int) ((zs2.getD m 0 : Nat) : Int) W
          rw [hv] at hcall
          replace hcall := Lib.hid hcall
          replace hv := Lib.hid hv
          go_wp2_with fail
          go_quiet ((go_at_call 63; exact Calls.quiet_of_same ((hcall.out _).mono fun _ _ ⟨h, h'⟩ => ⟨h, h'.symm⟩)))
          go_wp2
          go_ret
          exact ⟨by rw [← v1.out, ← v2.out, cmpV_gt (by exact_mod_cast vl_lex e2 hl3.out.symm (by omega) hd.out.symm (by exact_mod_cast hq.out))]; rfl, hdw.drewN _⟩
        · replace hq := Lib.hid hq
          have hcall := fun W : World => cmpU64_any ((zs1.getD m 0 : Nat) : Int) ((zs2.getD m 0 : Nat) : Int) W
          rw [hv] at hcall
          replace hcall := Lib.hid hcall
          replace hv := Lib.hid hv
          go_wp2_with fail
          go_quiet ((go_at_call 63; exact Calls.quiet_of_same ((hcall.out _).mono fun _ _ ⟨h, h'⟩ => ⟨h, h'.symm⟩)))
          go_wp2
          exact ⟨⟨m, by omega, rfl, drop_step hl3.out (by omega) hd.out (by exact_mod_cast hq.out), hdw.drewN _⟩, by simp [intOf]⟩
end Go.Proofs.YtncfbleeidjflaaGreatDoor
