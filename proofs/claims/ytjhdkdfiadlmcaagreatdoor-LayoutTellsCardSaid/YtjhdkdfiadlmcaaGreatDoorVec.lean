/- Slices of uint64 in memory: a slice that reads as a list of numbers; a block that is such a list, whole. Conditions: none. -/
import Derived.Test.YtjhdkdfiadlmcaaGreatDoorLib
import Derived.Test.YtjhdkdfiadlmcaaGreatDoorNum
import Derived.Laws.MakeOwn
import Derived.Laws.OwnMore
namespace Go.Cal
open Go.RowKit

/-- The slice value at A reads as the numbers xs; it lies below block B. -/
structure RdU (w : World) (B : Nat) (A : Option Addr) (xs : List Nat) : Prop where
  place : xs = [] ∨ ∃ b off, A = some ⟨b, off, none⟩ ∧ b < B
  cells : ∀ b off, A = some ⟨b, off, none⟩ → ∀ i, i < xs.length → w.cell? ⟨b, off + i, none⟩ = some (.int .u64 ((xs.getD i 0 : Nat) : Int))

section
variable {w w' : World} {B B' : Nat} {A : Option Addr} {xs : List Nat}
theorem RdU.nil : RdU w B A [] := ⟨.inl rfl, fun _ _ _ i hi => by simp at hi⟩
theorem RdU.at (h : RdU w B A xs) {i : Nat} (hi : i < xs.length) : ∃ b off, A = some ⟨b, off, none⟩ ∧ b < B ∧ ∀ j, j < xs.length → w.cell? ⟨b, off + j, none⟩ = some (.int .u64 ((xs.getD j 0 : Nat) : Int)) := by
  rcases h.place with rfl | ⟨b, off, e, hb⟩
  · simp at hi
  · exact ⟨b, off, e, hb, h.cells b off e⟩
theorem RdU.keep (h : RdU w B A xs) (hk : ∀ b o, b < B → w'.cell? ⟨b, o, none⟩ = w.cell? ⟨b, o, none⟩) : RdU w' B A xs := by
  rcases h.place with rfl | ⟨b, off, e, hb⟩
  · exact .nil
  · refine ⟨.inr ⟨b, off, e, hb⟩, fun b' off' e' i hi => ?_⟩
    rw [e] at e'
    injection e' with e'
    injection e' with e1 e2
    subst e1; subst e2
    rw [hk _ _ hb]
    exact h.cells _ _ e i hi
theorem RdU.below (h : RdU w B A xs) (hb : Below B w w') : RdU w' B A xs := h.keep fun b o hp => hb.cell (p := ⟨b, o, none⟩) hp
theorem RdU.more (h : RdU w B A xs) (hB : B ≤ B') : RdU w B' A xs := ⟨h.place.imp id fun ⟨b, off, e, hb⟩ => ⟨b, off, e, by omega⟩, h.cells⟩
theorem RdU.alloc (h : RdU w B A xs) (hB : B ≤ w.heap.size) (o : Obj) : RdU (w.alloc o) B A xs := h.below ((Below.refl _ _).alloc hB o)
theorem RdU.drewN (h : RdU w B A xs) (n : Nat) : RdU (w.drewN n) B A xs := ⟨h.place, h.cells⟩
theorem RdU.take (h : RdU w B A xs) (n : Nat) : RdU w B A (xs.take n) := by
  refine ⟨?_, fun b off e i hi => ?_⟩
  · rcases h.place with rfl | h
    · exact .inl (by simp)
    · exact .inr h
  · simp at hi
    rw [h.cells b off e i (by omega)]
    simp [List.getD_eq_getElem?_getD, show i < n by omega]
end

/-- The world behind some draws. -/
def Drawn (w w' : World) : Prop := ∃ n, w' = w.drewN n
theorem Drawn.refl (w : World) : Drawn w w := ⟨0, rfl⟩
theorem Drawn.drewN {w w' : World} (h : Drawn w w') (n : Nat) : Drawn w (w'.drewN n) := by
  obtain ⟨k, rfl⟩ := h
  exact ⟨k + n, World.drewN_drewN _ _ _⟩
theorem Drawn.trans {w w' w'' : World} (h : Drawn w w') (k : Drawn w' w'') : Drawn w w'' := by
  obtain ⟨n, rfl⟩ := k
  exact h.drewN n
theorem Drawn.below {w w' : World} (h : Drawn w w') (B : Nat) : Below B w w' := by
  obtain ⟨k, rfl⟩ := h
  exact ⟨rfl, rfl, rfl, Nat.le_refl _, fun _ _ => rfl⟩
theorem RdU.drawn {w w' : World} {B : Nat} {A : Option Addr} {xs : List Nat} (h : RdU w B A xs) (hd : Drawn w w') : RdU w' B A xs := by
  obtain ⟨k, rfl⟩ := hd
  exact h.drewN k
def lU (l : List Nat) : List Value := l.map fun x : Nat => Value.int .u64 (x : Int)

/-- Block g begins with the numbers L, of element type t, none frozen. -/
def BlkU (w : World) (g : Nat) (t : TypeId) (L : List Nat) : Prop := ∃ cs : Array Value, w.heap[g]? = some (.cells cs t (0, 0)) ∧ ∀ i, i < L.length → cs[i]? = some (.int .u64 ((L.getD i 0 : Nat) : Int))

section
variable {w w' : World} {g : Nat} {t : TypeId} {L : List Nat}
theorem lU_at (L : List Nat) (i : Nat) (hi : i < L.length) : (lU L)[i]? = some (.int .u64 ((L.getD i 0 : Nat) : Int)) := by
  simp [lU, List.getD_eq_getElem?_getD, hi]
theorem BlkU.of_list (h : w.heap[g]? = some (.cells (lU L).toArray t (0, 0))) : BlkU w g t L :=
  ⟨_, h, fun i hi => by rw [List.getElem?_toArray]; exact lU_at L i hi⟩
theorem BlkU.lt (h : BlkU w g t L) : g < w.heap.size := by
  obtain ⟨cs, h, _⟩ := h
  exact (Array.getElem?_eq_some_iff.1 h).1
theorem BlkU.cell (h : BlkU w g t L) (i : Nat) (hi : i < L.length) : w.cell? ⟨g, i, none⟩ = some (.int .u64 ((L.getD i 0 : Nat) : Int)) := by
  obtain ⟨cs, h, hc⟩ := h
  rw [cell_of_row w g i _ t (0, 0) h]
  exact hc i hi
theorem BlkU.frozen (h : BlkU w g t L) (i : Nat) : w.frozen? ⟨g, i, none⟩ = false := by
  obtain ⟨cs, h, _⟩ := h
  simp [World.frozen?, h]
theorem BlkU.made (w : World) (t : TypeId) (n : Nat) : BlkU (w.alloc (.cells (madeCells #[.int .u64 0] n) t)) w.heap.size t (List.replicate n 0) := by
  refine .of_list ?_
  rw [heap_alloc_new]
  congr 2
  apply Array.ext'
  rw [toList_madeCells_one]
  simp [lU]
theorem BlkU.lit (w : World) (t : TypeId) (L : List Nat) (cs : Array Value) (h : cs = (lU L).toArray) : BlkU (w.alloc (.cells cs t)) w.heap.size t L := by
  refine .of_list ?_
  rw [heap_alloc_new, h]
theorem BlkU.drew (h : BlkU w g t L) : BlkU w.drew g t L := h
theorem BlkU.same (h : BlkU w g t L) (e : w'.heap[g]? = w.heap[g]?) : BlkU w' g t L := by
  obtain ⟨cs, h, hc⟩ := h
  exact ⟨cs, e.trans h, hc⟩
theorem BlkU.alloc (h : BlkU w g t L) (o : Obj) : BlkU (w.alloc o) g t L := h.same (Below.heap_alloc w o g h.lt)
theorem BlkU.set (h : BlkU w g t L) (i x : Nat) : BlkU (w.setCell ⟨g, i, none⟩ (.int .u64 (x : Int))) g t (L.set i x) := by
  obtain ⟨cs, h, hc⟩ := h
  refine ⟨cs.setIfInBounds i (.int .u64 (x : Int)), by simp [World.setCell, Array.getElem?_modify, h], fun j hj => ?_⟩
  rw [List.length_set] at hj
  have hcj := hc j hj
  have hjs : j < cs.size := (Array.getElem?_eq_some_iff.1 hcj).1
  rw [Array.getElem?_setIfInBounds]
  by_cases e : i = j
  · subst e
    simp [hjs, List.getD_eq_getElem?_getD, hj]
  · rw [if_neg e, hcj]
    simp [List.getD_eq_getElem?_getD, List.getElem?_set_ne e]
theorem BlkU.far (h : BlkU w g t L) {p : Addr} (hp : g ≠ p.block) (u : Value) : BlkU (w.setCell p u) g t L := h.same (Below.heap_setCell w p u g hp)
theorem BlkU.below {B : Nat} (h : BlkU w g t L) (hb : Below B w w') (hg : g < B) : BlkU w' g t L := h.same (hb.block g hg)
theorem BlkU.rd (h : BlkU w g t L) (off n : Nat) (hn : off + n ≤ L.length) : RdU w (g + 1) (some ⟨g, off, none⟩) ((L.drop off).take n) := by
  refine ⟨.inr ⟨g, off, rfl, by omega⟩, fun b off' e i hi => ?_⟩
  injection e with e
  injection e with e1 e2
  subst e1; subst e2
  simp at hi
  rw [h.cell (off + i) (by omega)]
  simp [List.getD_eq_getElem?_getD, show i < n by omega]
end

/-- Only block g, and what is new, has turned. -/
theorem only_set {a w : World} {g : Nat} (h : a.grownBy w (some g)) (i : Nat) (u : Value) : a.grownBy (w.setCell ⟨g, i, none⟩ u) (some g) :=
  ⟨h.os, h.tape, h.output, by simpa [World.setCell] using h.size, fun j hj hne => (Below.heap_setCell w ⟨g, i, none⟩ u j (fun e => hne (by rw [e]))).trans (h.block j hj hne)⟩
theorem only_drawn {a w w' : World} {row : Option Nat} (h : a.grownBy w row) (hd : Drawn w w') : a.grownBy w' row := by
  obtain ⟨k, rfl⟩ := hd
  exact ⟨h.os, h.tape, h.output, h.size, h.block⟩
theorem only_refl (w : World) (row : Option Nat) : w.grownBy w row := ⟨rfl, rfl, rfl, Nat.le_refl _, fun _ _ _ => rfl⟩
theorem RdU.only {w w' : World} {B g : Nat} {A : Option Addr} {xs : List Nat} (h : RdU w B A xs) (hg : w.grownBy w' (some g)) (hBg : B ≤ g) (hBw : B ≤ w.heap.size) : RdU w' B A xs :=
  h.keep fun b o hb => World.cell?_of_block (hg.block b (by omega) (fun e => by injection e with e; omega))
/-- A slice that the call has made: what it reads as; its cells may be written, and lie from block base on. -/
structure GotU (w : World) (base : Nat) (A : Option Addr) (c : Nat) (zs : List Nat) : Prop where
  rd : RdU w w.heap.size A zs
  cap : zs.length ≤ c
  small : c ≤ 1099511627776
  own : zs = [] ∨ ∃ b off, A = some ⟨b, off, none⟩ ∧ base ≤ b ∧ ∀ i, i < zs.length → w.frozen? ⟨b, off + i, none⟩ = false
  full : c = zs.length
/-- Words of a number, without noughts at the end. -/
structure Nrm (zs : List Nat) (N : Nat) : Prop where
  dig : Dig 18446744073709551616 zs
  top : Top zs
  val : vl 18446744073709551616 zs = N
theorem Nrm.length_le {zs : List Nat} {N k : Nat} (h : Nrm zs N) (hN : N < 18446744073709551616 ^ k) : zs.length ≤ k := by
  rcases Nat.lt_or_ge k zs.length with hlt | hge
  · exfalso
    have h1 := vl_pos (b := 18446744073709551616) h.top (by intro e; subst e; simp at hlt)
    rw [h.val] at h1
    have h2 : 18446744073709551616 ^ k ≤ 18446744073709551616 ^ (zs.length - 1) := Nat.pow_le_pow_right (by omega) (by omega)
    omega
  · exact hge
theorem Nrm.unique {xs ys : List Nat} {N : Nat} (h : Nrm xs N) (k : Nrm ys N) : xs = ys := canon_unique (by omega) h.dig k.dig h.top k.top (h.val.trans k.val.symm)
theorem Nrm.zero : Nrm [] 0 := ⟨fun x hx => by simp at hx, fun h => absurd rfl h, rfl⟩
theorem GotU.nil (w : World) (base : Nat) : GotU w base none 0 [] := ⟨.nil, Nat.le_refl _, by omega, .inl rfl, rfl⟩
theorem GotU.below {w w' : World} {base : Nat} {A : Option Addr} {c : Nat} {zs : List Nat} (h : GotU w base A c zs) (hb : Below w.heap.size w w') : GotU w' base A c zs := by
  refine ⟨(h.rd.below hb).more hb.size, h.cap, h.small, h.own.imp id ?_, h.full⟩
  rintro ⟨b, off, rfl, h1, h2⟩
  refine ⟨b, off, rfl, h1, fun i hi => ?_⟩
  obtain ⟨b', off', e, hlt, _⟩ := h.rd.at hi
  injection e with e
  injection e with e1 e2
  subst e1; subst e2
  rw [hb.frozen (p := ⟨b, off + i, none⟩) hlt]
  exact h2 i hi
theorem GotU.base {w : World} {base base' : Nat} {A : Option Addr} {c : Nat} {zs : List Nat} (h : GotU w base A c zs) (hb : base' ≤ base) : GotU w base' A c zs :=
  ⟨h.rd, h.cap, h.small, h.own.imp id fun ⟨b, off, e, h1, h2⟩ => ⟨b, off, e, by omega, h2⟩, h.full⟩
/-- The call returns a slice of its own that reads as the number N. -/
def RetN (w : World) (N : Nat) (e : Ending) (w' : World) : Prop :=
  ∃ A c zs, e = .returned (.slice A (zs : List Nat).length c) ∧ GotU w' w.heap.size A c zs ∧ Nrm zs N ∧ Below w.heap.size w w'
theorem BlkU.got {w : World} {g : Nat} {t : TypeId} {L : List Nat} (h : BlkU w g t L) (base n : Nat) (hb : base ≤ g) (hn : n ≤ L.length) (hs : n ≤ 1099511627776) : GotU w base (some ⟨g, 0, none⟩) n (L.take n) := by
  have e : (L.take n).length = n := by rw [List.length_take]; omega
  refine ⟨?_, by omega, hs, .inr ⟨g, 0, rfl, hb, fun i _ => by rw [Nat.zero_add]; exact h.frozen i⟩, e.symm⟩
  have := h.rd 0 n (by omega)
  exact this.more h.lt

/-- make, of as many elements as its room. -/
theorem run_makeN {P : Program} (t e : TypeId) (i : TypeInfo) (z : Value) (ht : P.underlying t = some (.slice e)) (hi : P.info? e = some i) (hz : i.zero = some z)
    (n : Nat) (hbytes : i.bytes * n ≤ 281474976710656) (h63 : n ≤ 9223372036854775807) (w : World) :
    (Instr.makeSlice t (.int .i64 (n : Int)) (.int .i64 (n : Int))).run P w = .ok (.slice (some ⟨w.heap.size, 0, none⟩) n n) (w.alloc (.cells (madeCells z.cells (n * i.size)) e)) := by
  have hb : (i.bytes : Int) * (n : Int) ≤ 281474976710656 := by
    have h : ((i.bytes * n : Nat) : Int) ≤ 281474976710656 := by omega
    rwa [Int.natCast_mul] at h
  have hr := run_make (P := P) w t e i z ht hi hz .i64 .i64 n n (by omega) (by omega) hb (by omega)
  simp only [Int.toNat_natCast] at hr
  exact hr
/-- make of uint64 words. -/
theorem run_makeU {P : Program} (t e : TypeId) (ht : P.underlying t = some (.slice e)) (hinfo : (P.info? e).map (fun i => (i.zero, i.size, i.bytes)) = some (some (.int .u64 0), 1, 8))
    (n : Nat) (h : n ≤ 1099511627776) (w : World) :
    (Instr.makeSlice t (.int .i64 (n : Int)) (.int .i64 (n : Int))).run P w = .ok (.slice (some ⟨w.heap.size, 0, none⟩) n n) (w.alloc (.cells (madeCells #[.int .u64 0] n) e)) := by
  obtain ⟨i, hi, hz0, hz1, hz2⟩ := info_parts hinfo
  have := run_makeN (P := P) t e i _ ht hi hz0 n (by rw [hz2]; omega) (by omega) w
  rw [hz1, Nat.mul_one] at this
  exact this
end Go.Cal
