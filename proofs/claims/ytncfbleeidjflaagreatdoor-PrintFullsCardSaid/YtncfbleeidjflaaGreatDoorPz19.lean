/- The nat layer: Parse. Conditions: none but a text's reach. -/
/- The nat layer, by values: what each call tells, where a list of live numbers is kept. Conditions: a number's words are counted. -/
/- What the rows of the nat layer share: the tables out of the row's condition, a slice of words out of an argument. Conditions: none. -/
/- The nat layer, by values, where a number's words have no noughts at the end; live facts of any kind. Conditions: a number's words are counted. -/
/- Scan, first part: words. Conditions: a text's reach. -/
/- Scan, second part: numbers. Conditions: a text's reach. -/
/- Scan, third part: what a number of digits is. Conditions: a text's reach. -/
/- Scan, fourth part: texts. Conditions: a text's reach. -/
/- The laws of Scan: what must be in any case. Condition: the table of powers reads as it is laid. -/
/- Bytes put behind bytes: append, onto a slice that the walk has made. Conditions: the length's reach. -/
/- The law ScanFar, walked. Condition: the table of powers reads as it is laid. -/
/- Posits: Value, walked. Condition: the library's table of noughts. -/
import Derived.Test.YtncfbleeidjflaaGreatDoorPz18
import Derived.Shelf.Strings.SlTrimAscii
import Derived.Lib.ParseIntBCases
import Derived.Lib.SmallJoins
import Derived.Test.YtncfbleeidjflaaGreatDoorCards
import Derived.Test.YtncfbleeidjflaaGreatDoorTie
import Derived.ProofKit
import Derived.LaidMore
import Derived.OpenShut
import Derived.Lay
import Derived.SevenTiedAt
import Derived.Stop.Joined
import Derived.Lib.LaidTab
import Derived.Test.YtncfbleeidjflaaGreatDoorPz04
import Derived.Deep.QuietTactic
import Derived.BigQuiet
import Derived.Test.YtncfbleeidjflaaGreatDoorPz08
import Derived.Test.YtncfbleeidjflaaGreatDoorPz12
import Derived.Lib.SlBytesRow
import Derived.Laws.IdiomStrings
import Derived.Lib.SlBytesConst
import Derived.Lib.AppendStr
import Derived.Lib.SlBuf
import Derived.ArgAppend
import Derived.Test.YtncfbleeidjflaaGreatDoorPz17
import Derived.Defers
import Derived.Recover
import Derived.Tactics2
namespace Go.Proofs.YtncfbleeidjflaaGreatDoor
open Go.RowKit Go.Cal
theorem numV_lt : ∀ (l : List UInt8), (∀ c ∈ l, isDig c = true) → numV l < 10 ^ l.length := by
  intro l
  induction hn : l.length generalizing l with
  | zero => intro _; rw [List.eq_nil_of_length_eq_zero hn]; simp [numV]
  | succ n ih =>
    intro hd
    have h0 : l ≠ [] := by intro e; subst e; simp at hn
    obtain ⟨m, c, rfl⟩ : ∃ m c, l = m ++ [c] := ⟨l.dropLast, l.getLast h0, (List.dropLast_concat_getLast h0).symm⟩
    have hc := hd c (by simp)
    simp only [isDig, Bool.and_eq_true, decide_eq_true_eq] at hc
    have := ih m (by simp at hn; exact hn) (fun c hc => hd c (by simp [hc]))
    rw [numV_snoc, Nat.pow_succ]
    omega
end Go.Proofs.YtncfbleeidjflaaGreatDoor
namespace Go.Proofs.YtncfbleeidjflaaGreatDoor
open Go.RowKit Go.Cal
/-- The value reads as the number N, of k words at most. -/
def IsN (w : World) (v : Value) (k N : Nat) : Prop :=
  ∃ A c zs, v = .slice A (zs : List Nat).length c ∧ RdU w w.heap.size A zs ∧ zs.length ≤ c ∧ zs.length ≤ k ∧ Dig 18446744073709551616 zs ∧ vl 18446744073709551616 zs = N
theorem IsN.below {w w' : World} {v : Value} {k N : Nat} (h : IsN w v k N) (hb : Below w.heap.size w w') : IsN w' v k N := by
  obtain ⟨A, c, zs, h1, h2, h3⟩ := h
  exact ⟨A, c, zs, h1, (h2.below hb).more hb.size, h3⟩
theorem IsN.drawn {w w' : World} {v : Value} {k N : Nat} (h : IsN w v k N) (hd : Drawn w w') : IsN w' v k N := h.below (hd.below _)
theorem IsN.lt {w : World} {v : Value} {k N : Nat} (h : IsN w v k N) : N < 18446744073709551616 ^ k := by
  obtain ⟨A, c, zs, h1, h2, h3, h4, h5, h6⟩ := h
  have h7 := vl_lt h5
  have h8 : 18446744073709551616 ^ zs.length ≤ 18446744073709551616 ^ k := Nat.pow_le_pow_right (by omega) h4
  omega
theorem IsN.nil (w : World) : IsN w (.slice none 0 0) 0 0 := ⟨none, 0, [], rfl, .nil, Nat.le_refl _, Nat.le_refl _, fun x hx => by simp at hx, rfl⟩
theorem IsN.ofW {w : World} {base k N : Nat} {A : Option Addr} {c : Nat} {zs : List Nat} (g : GotW w base A c zs) (n : Nrm zs N) (hk : N < 18446744073709551616 ^ k) : IsN w (.slice A zs.length c) k N :=
  ⟨A, c, zs, rfl, g.rd, g.cap, n.length_le hk, n.dig, n.val⟩
theorem IsN.more {w : World} {v : Value} {k k' N : Nat} (h : IsN w v k N) (hk : k ≤ k') : IsN w v k' N := by
  obtain ⟨A, c, zs, h1, h2, h3, h4, h5⟩ := h
  exact ⟨A, c, zs, h1, h2, h3, by omega, h5⟩
/-- Below B nothing has turned; the values of the list are live. -/
structure Live (B w : World) (l : List (Value × Nat × Nat)) : Prop where
  below : Below B.heap.size B w
  all : ∀ p ∈ l, IsN w p.1 p.2.1 p.2.2
section
variable {B w : World} {l : List (Value × Nat × Nat)}
theorem Live.size (h : Live B w l) : B.heap.size ≤ w.heap.size := h.below.size
theorem Live.start (w : World) : Live w w [] := ⟨.refl _ _, fun p hp => by simp at hp⟩
theorem Live.get (h : Live B w l) {v : Value} {k N : Nat} (hm : (v, k, N) ∈ l) : IsN w v k N := h.all _ hm
theorem Live.go {w' : World} (h : Live B w l) (hb : Below w.heap.size w w') : Live B w' l := ⟨h.below.trans (hb.mono h.size), fun p hp => (h.all p hp).below hb⟩
theorem Live.put {v : Value} {k N : Nat} (h : Live B w l) (hv : IsN w v k N) : Live B w ((v, k, N) :: l) := ⟨h.below, fun p hp => by
  rcases List.mem_cons.1 hp with rfl | hp
  · exact hv
  · exact h.all p hp⟩
theorem Live.keep {l' : List (Value × Nat × Nat)} (h : Live B w l) (hs : ∀ p ∈ l', p ∈ l) : Live B w l' := ⟨h.below, fun p hp => h.all p (hs p hp)⟩
theorem Live.tab (h : Live B w l) (hT : Tab10 B) : Tab10 w := hT.below h.below
variable {v1 v2 : Value} {k1 k2 X Y : Nat}
theorem even_l (h : Live B w l) (m1 : (v1, k1, X) ∈ l) :
    Calls Tryz.prog 153 #[v1] w fun e w' => e = .returned (.bool (!X.testBit 0)) ∧ w = w' := by
  obtain ⟨A1, c1, z1, rfl, r1, hc1, hl1, d1, rfl⟩ := h.get m1
  exact even_any c1 w r1 d1
end
/-- A slice that the text itself lays. -/
theorem IsN.lit (w : World) (L : List Nat) (cs : Array Value) (hcs : cs = (lU L).toArray) (hd : Dig 18446744073709551616 L) : IsN (w.alloc (.cells cs 22)) (.slice (some ⟨w.heap.size, 0, none⟩) L.length L.length) L.length (vl 18446744073709551616 L) := by
  have hrd := ((BlkU.lit w 22 L cs hcs).rd 0 L.length (by omega)).more (B' := (w.alloc (.cells cs 22)).heap.size) (by simp)
  simp only [List.drop_zero, List.take_length] at hrd
  exact ⟨_, _, L, rfl, hrd, Nat.le_refl _, Nat.le_refl _, hd, rfl⟩
theorem Live.lit {B w : World} {l : List (Value × Nat × Nat)} (h : Live B w l) (L : List Nat) (cs : Array Value) (k N : Nat) (hcs : cs = (lU L).toArray) (hd : L.all (· < 18446744073709551616) = true) (hk : L.length = k) (hv : vl 18446744073709551616 L = N) :
    Live B (w.alloc (.cells cs 22)) ((.slice (some ⟨w.heap.size, 0, none⟩) k k, k, N) :: l) := by
  subst hk; subst hv
  exact (h.go ((Below.refl _ _).alloc (Nat.le_refl _) _)).put (.lit w L cs hcs fun x hx => by simpa using List.all_eq_true.1 hd x hx)
section
variable {B w : World} {l : List (Value × Nat × Nat)} {v1 v2 : Value} {k1 k2 X Y : Nat}
theorem Live.nil (h : Live B w l) : Live B w ((.slice none 0 0, 0, 0) :: l) := h.put (.nil w)
end
end Go.Proofs.YtncfbleeidjflaaGreatDoor
namespace Go.Proofs.YtncfbleeidjflaaGreatDoor
open Go.ChangeShapes Go.WideShapes Go.ChangeAt Go.RowKit Go.Cal
theorem own : ownKnob Tryz.prog.godebug = none := by kernel_rfl
theorem laidVars_mem {P : Program} {w : World} : ∀ {laid : List (String × DataW Unit)} {ps : List MemPlace}, DataW.LaidVars P w laid ps → ∀ {n : String} {d : DataW Unit}, (n, d) ∈ laid →
    ∃ g t cs fuel p, P.globalNamed n = some g ∧ (P.globals[g]?).map (·.type) = some t ∧ w.var? P n = some cs ∧ DataW.trod (fun _ => ()) P w 0 (fun _ => true) false fuel t cs.toList = some (d, p)
  | [], _, _, _, _, h => by simp at h
  | (n', d') :: r, ps, h, n, d, hm => by
    obtain ⟨g, t, cs, fuel, p, q, h1, h2, h3, h4, h5, _⟩ := h
    rcases List.mem_cons.1 hm with e | hm
    · injection e with e1 e2
      subst e1; subst e2
      exact ⟨g, t, cs, fuel, p, h1, h2, h3, h4⟩
    · exact laidVars_mem h5 hm
theorem tab10_of_laid {W : World} {laid : List (String × DataW Unit)} (h : laidMet Tryz.prog laid W) (hm : ("internal/strconv.uint64pow10", Rows.laid_internal_strconv_uint64pow10) ∈ laid) : Tab10 W := by
  obtain ⟨ps, hl, _⟩ := h
  obtain ⟨g, t, cs, fuel, p, h1, h2, h3, h4⟩ := laidVars_mem hl hm
  obtain rfl := Option.some.inj ((show Tryz.prog.globalNamed "internal/strconv.uint64pow10" = some 5 by kernel_rfl).symm.trans h1)
  obtain rfl := Option.some.inj ((show (Tryz.prog.globals[5]?).map (·.type) = some 252 by kernel_rfl).symm.trans h2)
  have h5 := Lib.cells_of_tab (k := .u64) (zs := Lib.pow10Tab) Tryz.underlying252 Tryz.underlying22 (by kernel_rfl) (by kernel_rfl) h4
  unfold Tab10 Lib.TabIs
  rw [h3, ← h5]
end Go.Proofs.YtncfbleeidjflaaGreatDoor
namespace Go.Proofs.YtncfbleeidjflaaGreatDoor
open Go.RowKit Go.Cal
/-- A fact that stays where old memory stays. -/
def Stable (P : World → Prop) : Prop := ∀ w w', P w → Below w.heap.size w w' → P w'
/-- Below B nothing has turned; the facts of the list hold. -/
structure LiveP (B w : World) (l : List (World → Prop)) : Prop where
  below : Below B.heap.size B w
  all : ∀ P ∈ l, Stable P ∧ P w
section
variable {B w w' : World} {l l' : List (World → Prop)} {P : World → Prop}
theorem LiveP.start (w : World) : LiveP w w [] := ⟨.refl _ _, fun p hp => by simp at hp⟩
theorem LiveP.size (h : LiveP B w l) : B.heap.size ≤ w.heap.size := h.below.size
theorem LiveP.get (h : LiveP B w l) (hm : P ∈ l) : P w := (h.all _ hm).2
theorem LiveP.go (h : LiveP B w l) (hb : Below w.heap.size w w') : LiveP B w' l := ⟨h.below.trans (hb.mono h.size), fun p hp => ⟨(h.all p hp).1, (h.all p hp).1 _ _ (h.all p hp).2 hb⟩⟩
theorem LiveP.put (h : LiveP B w l) (hs : Stable P) (hv : P w) : LiveP B w (P :: l) := ⟨h.below, fun p hp => by
  rcases List.mem_cons.1 hp with rfl | hp
  · exact ⟨hs, hv⟩
  · exact h.all p hp⟩
theorem LiveP.keep (h : LiveP B w l) (hs : ∀ p ∈ l', p ∈ l) : LiveP B w l' := ⟨h.below, fun p hp => h.all p (hs p hp)⟩
end
/-- The value reads as the number N: its words have no noughts at the end. -/
def IsT (w : World) (v : Value) (k N : Nat) : Prop :=
  ∃ A c zs, v = .slice A (zs : List Nat).length c ∧ RdU w w.heap.size A zs ∧ zs.length ≤ c ∧ c ≤ maxLen ∧ zs.length ≤ k ∧ Nrm zs N
theorem IsT.below {w w' : World} {v : Value} {k N : Nat} (h : IsT w v k N) (hb : Below w.heap.size w w') : IsT w' v k N := by
  obtain ⟨A, c, zs, h1, h2, h3⟩ := h
  exact ⟨A, c, zs, h1, (h2.below hb).more hb.size, h3⟩
theorem IsT.isN {w : World} {v : Value} {k N : Nat} (h : IsT w v k N) : IsN w v k N := by
  obtain ⟨A, c, zs, h1, h2, h3, h4, h5, h6⟩ := h
  exact ⟨A, c, zs, h1, h2, h3, h5, h6.dig, h6.val⟩
theorem IsT.ofW {w : World} {base k N : Nat} {A : Option Addr} {c : Nat} {zs : List Nat} (g : GotW w base A c zs) (n : Nrm zs N) (hk : N < 18446744073709551616 ^ k) : IsT w (.slice A zs.length c) k N :=
  ⟨A, c, zs, rfl, g.rd, g.cap, g.small, n.length_le hk, n⟩
def pT (v : Value) (k N : Nat) (w : World) : Prop := IsT w v k N
theorem pT_st (v : Value) (k N : Nat) : Stable (pT v k N) := fun _ _ h hb => IsT.below h hb
/-- A call tells one number. -/
def TellsT (w : World) (k N : Nat) (e : Ending) (w' : World) : Prop := ∃ v, e = .returned v ∧ pT v k N w' ∧ Below w.heap.size w w'
section
variable {w : World} {v1 v2 : Value} {k1 k2 X Y : Nat}
theorem tellsT_of_retN {N k : Nat} {e : Ending} {w' : World} (hk : N < 18446744073709551616 ^ k) (hr : RetN w N e w') : TellsT w k N e w' := by
  obtain ⟨A, c, zs, rfl, g, n, hb⟩ := hr
  exact ⟨_, rfl, .ofW (gotU_toW g) n hk, hb⟩
theorem tellsT_of_retW {N k : Nat} {e : Ending} {w' : World} (hk : N < 18446744073709551616 ^ k) (hr : RetW w N e w') : TellsT w k N e w' := by
  obtain ⟨A, c, zs, rfl, g, n, hb⟩ := hr
  exact ⟨_, rfl, .ofW g n hk, hb⟩
theorem add_t (h1 : IsN w v1 k1 X) (h2 : IsN w v2 k2 Y) (b1 : k1 ≤ 1048576) (b2 : k2 ≤ 1048576) : Calls Tryz.prog 150 #[v1, v2] w (TellsT w (max k1 k2 + 1) (X + Y)) := by
  have i1 := h1.lt
  have i2 := h2.lt
  obtain ⟨A1, c1, z1, rfl, r1, hc1, hl1, d1, rfl⟩ := h1
  obtain ⟨A2, c2, z2, rfl, r2, hc2, hl2, d2, rfl⟩ := h2
  refine (add_any c1 c2 w r1 r2 (by omega) (by omega) d1 d2).mono fun e w' hr => tellsT_of_retN ?_ hr
  have e1 : 18446744073709551616 ^ k1 ≤ 18446744073709551616 ^ max k1 k2 := Nat.pow_le_pow_right (by omega) (Nat.le_max_left _ _)
  have e2 : 18446744073709551616 ^ k2 ≤ 18446744073709551616 ^ max k1 k2 := Nat.pow_le_pow_right (by omega) (Nat.le_max_right _ _)
  rw [Nat.pow_succ]
  omega
theorem mul_t (h1 : IsN w v1 k1 X) (h2 : IsN w v2 k2 Y) (b1 : k1 ≤ 1048576) (b2 : k2 ≤ 1048576) : Calls Tryz.prog 47 #[v1, v2] w (TellsT w (k1 + k2) (X * Y)) := by
  have i1 := h1.lt
  have i2 := h2.lt
  obtain ⟨A1, c1, z1, rfl, r1, hc1, hl1, d1, rfl⟩ := h1
  obtain ⟨A2, c2, z2, rfl, r2, hc2, hl2, d2, rfl⟩ := h2
  refine (mul_any c1 c2 w r1 r2 (by omega) (by omega) d1 d2).mono fun e w' hr => tellsT_of_retN ?_ hr
  rw [Nat.pow_add]
  exact Nat.mul_lt_mul'' i1 i2
theorem cmp_t (h1 : IsN w v1 k1 X) (h2 : IsN w v2 k2 Y) (b1 : k1 ≤ 1048576) (b2 : k2 ≤ 1048576) : Calls Tryz.prog 21 #[v1, v2] w fun e w' => e = .returned (.int .i64 (cmpV (X : Int) (Y : Int))) ∧ Below w.heap.size w w' := by
  obtain ⟨A1, c1, z1, rfl, r1, hc1, hl1, d1, rfl⟩ := h1
  obtain ⟨A2, c2, z2, rfl, r2, hc2, hl2, d2, rfl⟩ := h2
  exact (cmp_any c1 c2 w r1 r2 hc1 hc2 (by omega) (by omega) d1 d2).mono fun e w' ⟨he, hd⟩ => ⟨he, hd.below _⟩
def TellsTD (w : World) (k k' Q R : Nat) (e : Ending) (w' : World) : Prop := ∃ v v', e = .returned (.tuple #[v, v', .bool true]) ∧ pT v k Q w' ∧ pT v' k' R w' ∧ Below w.heap.size w w'
theorem div_t (h1 : IsN w v1 k1 X) (h2 : IsN w v2 k2 Y) (b1 : k1 ≤ 1048576) (b2 : k2 ≤ 1048576) (h0 : 0 < Y) : Calls Tryz.prog 154 #[v1, v2] w (TellsTD w k1 k2 (X / Y) (X % Y)) := by
  have i1 := h1.lt
  have i2 := h2.lt
  obtain ⟨A1, c1, z1, rfl, r1, hc1, hl1, d1, rfl⟩ := h1
  obtain ⟨A2, c2, z2, rfl, r2, hc2, hl2, d2, rfl⟩ := h2
  refine (div_any c1 c2 w r1 r2 hc1 hc2 (by omega) (by omega) d1 d2).mono fun e w' hr => ?_
  unfold RetDiv at hr
  rw [if_neg (by omega)] at hr
  obtain ⟨A, c, zs, A', c', rs, rfl, g, n, g', n', hb⟩ := hr
  exact ⟨_, _, rfl, .ofW g n (Nat.lt_of_le_of_lt (Nat.div_le_self _ _) i1), .ofW g' n' (Nat.lt_trans (Nat.mod_lt _ h0) i2), hb⟩
theorem shl_t (n : Int) (k' N : Nat) (h1 : IsN w v1 k1 X) (b1 : k1 ≤ 1048576) (hN : X * 2 ^ (min (max n 0) 131072).toNat = N) (hk : N < 18446744073709551616 ^ k') : Calls Tryz.prog 46 #[v1, .int .i64 n] w (TellsT w k' N) := by
  subst hN
  obtain ⟨A1, c1, z1, rfl, r1, hc1, hl1, d1, rfl⟩ := h1
  exact (shl_any c1 n w r1 hc1 (by omega) d1).mono fun e w' hr => tellsT_of_retN hk hr
theorem norm_t (h1 : IsN w v1 k1 X) (b1 : k1 ≤ 1048576) : Calls Tryz.prog 43 #[v1] w (TellsT w k1 X) := by
  have i1 := h1.lt
  obtain ⟨A1, c1, z1, rfl, r1, hc1, hl1, d1, rfl⟩ := h1
  exact (norm_any c1 w r1 hc1 (by omega) d1).mono fun e w' hr => tellsT_of_retW i1 hr
end
theorem of_t (w : World) (n : Nat) (hn : n < 18446744073709551616) : Calls Tryz.prog 96 #[.int .u64 n] w (TellsT w 1 n) :=
  (of_any n hn w).mono fun _ _ hr => tellsT_of_retW (by rw [Nat.pow_one]; exact hn) hr
theorem pow_t (w : World) (base : Nat) (hb : base < 18446744073709551616) (n : Int) (n0 : Nat) (hn : (min (max n 0) 10000).toNat = n0) : Calls Tryz.prog 48 #[.int .u64 base, .int .i64 n] w (TellsT w (n0 + 1) (base ^ n0)) := by
  subst hn
  exact (pow_any base hb n w).mono fun _ _ hr => tellsT_of_retW (Nat.lt_of_le_of_lt (Nat.pow_le_pow_left (Nat.le_of_lt hb) _) (Nat.pow_lt_pow_right (by omega) (Nat.lt_succ_self _))) hr
end Go.Proofs.YtncfbleeidjflaaGreatDoor
namespace Go.Proofs.YtncfbleeidjflaaGreatDoor
open Go.RowKit Go.Cal
def strL (l : List UInt8) : ByteArray := ⟨l.toArray⟩
theorem strL_size (l : List UInt8) : (strL l).size = l.length := by simp [strL, ByteArray.size]
theorem strL_get (l : List UInt8) (i : Nat) (h : i < (strL l).size) : (strL l)[i] = l.getD i 0 := by
  have h' : i < l.length := by rwa [strL_size] at h
  show l.toArray[i]'_ = _
  simp [List.getD_eq_getElem?_getD, h']
  rfl
end Go.Proofs.YtncfbleeidjflaaGreatDoor
namespace Go.Proofs.YtncfbleeidjflaaGreatDoor
open Go.RowKit Go.Cal
/-- The text, and how far it is read: two variables that lie in memory. -/
structure Box (w : World) (l : List UInt8) (p : Nat) (wr : World) : Prop where
  s : wr.cell? ⟨w.heap.size, 0, none⟩ = some (.string (strL l))
  a : wr.cell? ⟨w.heap.size + 1, 0, none⟩ = some (.int .i64 p)
  fz : wr.frozen? ⟨w.heap.size + 1, 0, none⟩ = false
  below : Below w.heap.size w wr
theorem Box.step {w wr : World} {l : List UInt8} {p : Nat} (h : Box w l p wr) (p' : Nat) : Box w l p' (wr.setCell ⟨w.heap.size + 1, 0, none⟩ (.int .i64 p')) := by
  refine ⟨?_, World.cell?_setCell_same' wr _ _ (by rw [h.a]; rfl), by simpa using h.fz, h.below.setCell (by show _ ≤ _ + 1; omega) _⟩
  rw [World.cell?_setCell_other _ _ _ _ (fun e => by have := congrArg Addr.block e; simp at this)]
  exact h.s
theorem Box.drawn {w wr : World} {l : List UInt8} {p : Nat} (h : Box w l p wr) (n : Nat) : Box w l p (wr.drewN n) :=
  ⟨by simpa using h.s, by simpa using h.a, by simpa using h.fz, h.below.trans (Drawn.below ⟨n, rfl⟩ _)⟩
end Go.Proofs.YtncfbleeidjflaaGreatDoor
namespace Go.Proofs.YtncfbleeidjflaaGreatDoor
open Go.RowKit Go.Cal
/-- As pItem; the digits lie in memory from block base on. -/
def pItemN (base : Nat) (v : Value) (it : Cal.Item) (w : World) : Prop :=
  ∃ (A : Option Addr) (c : Nat) (zs : List Nat), v = .agg #[.int .i64 (it.kind : Nat), .bool it.neg, .slice A zs.length c, .int .i64 it.k, .int .i64 it.big, .bool it.cut] ∧ RdU w w.heap.size A zs ∧ zs.length ≤ c ∧ c ≤ maxLen ∧ zs.length ≤ 2000 ∧ Nrm zs it.d ∧ (zs = [] ∨ ∃ b off, A = some ⟨b, off, none⟩ ∧ base ≤ b)
theorem pItemN.nil (base kind : Nat) (neg : Bool) (k big : Int) (cut : Bool) (w : World) : pItemN base (.agg #[.int .i64 (kind : Nat), .bool neg, .slice none 0 0, .int .i64 k, .int .i64 big, .bool cut]) ⟨kind, neg, 0, k, big, cut⟩ w :=
  ⟨none, 0, [], rfl, .nil, Nat.le_refl _, by unfold maxLen; omega, by simp, .zero, .inl rfl⟩
theorem size_setCell (w : World) (p : Addr) (u : Value) : (w.setCell p u).heap.size = w.heap.size := by simp [World.setCell]
theorem RdU.apart {w : World} {B base : Nat} {A : Option Addr} {zs : List Nat} {p : Addr} {u : Value} (h : RdU w B A zs) (hn : zs = [] ∨ ∃ b off, A = some ⟨b, off, none⟩ ∧ base ≤ b) (hp : p.block < base) : RdU (w.setCell p u) B A zs := by
  refine ⟨h.place, fun b off e i hi => ?_⟩
  rcases hn with rfl | ⟨b', off', e', hb⟩
  · simp at hi
  · rw [e] at e'
    injection e' with e'
    injection e' with e1 e2
    subst e1
    rw [World.cell?_setCell_other _ _ _ _ (fun e3 => by have := congrArg Addr.block e3; simp at this; omega)]
    exact h.cells b off e i hi
end Go.Proofs.YtncfbleeidjflaaGreatDoor
namespace Go.Proofs.YtncfbleeidjflaaGreatDoor
open Go.RowKit Go.Cal
theorem sunder_bytes : Tryz.prog.underlying 66 = some (.slice 5) := by kernel_rfl
theorem sunder_byte : Tryz.prog.underlying 5 = some (.int .u8) := by kernel_rfl
theorem sunder_str : Tryz.prog.underlying 9 = some .string := by kernel_rfl
/-- The slice at A reads as the bytes l; it lies below block B. -/
structure RdB (w : World) (B : Nat) (A : Option Addr) (l : List UInt8) : Prop where
  place : l = [] ∨ ∃ b off, A = some ⟨b, off, none⟩ ∧ b < B
  cells : ∀ b off, A = some ⟨b, off, none⟩ → ∀ i, i < l.length → w.cell? ⟨b, off + i, none⟩ = some (.int .u8 (((l.getD i 0).toNat : Nat) : Int))
theorem RdB.keep {w w' : World} {B : Nat} {A : Option Addr} {l : List UInt8} (h : RdB w B A l) (hk : ∀ b o, b < B → w'.cell? ⟨b, o, none⟩ = w.cell? ⟨b, o, none⟩) : RdB w' B A l := by
  rcases h.place with rfl | ⟨b, off, e, hb⟩
  · exact ⟨.inl rfl, fun _ _ _ i hi => by simp at hi⟩
  · refine ⟨.inr ⟨b, off, e, hb⟩, fun b' off' e' i hi => ?_⟩
    rw [e] at e'
    injection e' with e'
    injection e' with e1 e2
    subst e1; subst e2
    rw [hk _ _ hb]
    exact h.cells _ _ e i hi
theorem RdB.below {w w' : World} {B : Nat} {A : Option Addr} {l : List UInt8} (h : RdB w B A l) (hb : Below B w w') : RdB w' B A l := h.keep fun b o hp => hb.cell (p := ⟨b, o, none⟩) hp
theorem conv_bytes {w : World} {B : Nat} {A : Option Addr} {l : List UInt8} (c : Nat) (h : RdB w B A l) : (convert 66 9 (.slice A l.length c)).run Tryz.prog w = .ok (.string (strL l)) w := by
  cases A with
  | none =>
    rcases h.place with rfl | ⟨b, off, e, _⟩
    · exact run_convert_bytes_nil (P := Tryz.prog) w 66 5 sunder_bytes sunder_byte _ _ 9 sunder_str
    · cases e
  | some a =>
    refine run_convert_bytes_back (P := Tryz.prog) w 66 9 5 a c l sunder_bytes sunder_byte sunder_str (fun j hj => ?_)
    rcases h.place with rfl | ⟨b, off, e, _⟩
    · simp at hj
    · injection e with e
      subst e
      rw [Lib.add_plain, h.cells b off rfl j hj]
      simp [List.getD_eq_getElem?_getD, hj]
end Go.Proofs.YtncfbleeidjflaaGreatDoor
namespace Go.Proofs.YtncfbleeidjflaaGreatDoor
open Go.RowKit Go.Cal
/-- A block that a walk has made. -/
def pBlk (g : Nat) (cs : Array Value) (t : TypeId) (w : World) : Prop := w.heap[g]? = some (.cells cs t (0, 0))
theorem pBlk_st (g : Nat) (cs : Array Value) (t : TypeId) : Stable (pBlk g cs t) := fun w w' h hb => by
  have hlt := (Array.getElem?_eq_some_iff.1 h).1
  exact (hb.block g hlt).trans h
theorem pBlk_made (w : World) (cs : Array Value) (t : TypeId) : pBlk w.heap.size cs t (w.alloc (.cells cs t)) := heap_alloc_new w _
theorem pBlk.cell {g : Nat} {cs : Array Value} {t : TypeId} {w : World} (h : pBlk g cs t w) (i : Nat) (v : Value) (hv : cs[i]? = some v) : w.cell? ⟨g, i, none⟩ = some v := by
  rw [cell_of_row w g i cs t (0, 0) h, hv]
def lBv (l : List UInt8) : List Value := l.map fun x => Value.int .u8 (x.toNat : Int)
theorem rd_lit (w : World) (l : List UInt8) (cs : Array Value) (h : cs = (lBv l).toArray) (fr : Nat × Nat) : RdB (w.alloc (.cells cs 5 fr)) (w.alloc (.cells cs 5 fr)).heap.size (some ⟨w.heap.size, 0, none⟩) l := by
  refine ⟨.inr ⟨_, _, rfl, by simp⟩, fun b off e i hi => ?_⟩
  injection e with e
  injection e with e1 e2
  subst e1; subst e2
  rw [World.cell?_alloc_mark, Nat.zero_add, h]
  simp [lBv, List.getD_eq_getElem?_getD, hi]
theorem stext_t {w : World} {v1 : Value} {k1 X : Nat} (hT : Tab10 w) (h : IsN w v1 k1 X) (b1 : k1 ≤ 1048576) :
    Calls Tryz.prog 42 #[v1] w fun e w' => e = .returned (.string ⟨(Lib.decDigits X).toArray⟩) ∧ Below w.heap.size w w' := by
  obtain ⟨A1, c1, z1, rfl, r1, hc1, hl1, d1, rfl⟩ := h
  exact text_any c1 w r1 hc1 (by omega) d1 hT
end Go.Proofs.YtncfbleeidjflaaGreatDoor
namespace Go.Proofs.YtncfbleeidjflaaGreatDoor
open Go.RowKit Go.Cal
/-- A slice of bytes that is the walk's own: from its first cell on, no cell of it barred. -/
structure OwnB (w : World) (base g cap : Nat) (l : List UInt8) : Prop where
  base : base ≤ g
  lt : g < w.heap.size
  len : l.length ≤ cap
  capb : cap ≤ maxLen
  cells : ∀ i, i < l.length → w.cell? ⟨g, i, none⟩ = some (.int .u8 (((l.getD i 0).toNat : Nat) : Int))
  some : ∀ i, i < cap → (w.cell? ⟨g, i, none⟩).isSome = true
  free : ∀ i, i < cap → w.frozen? ⟨g, i, none⟩ = false
theorem OwnB.rd {w : World} {base g cap : Nat} {l : List UInt8} (h : OwnB w base g cap l) : RdB w w.heap.size (Option.some ⟨g, 0, none⟩) l := by
  refine ⟨.inr ⟨_, _, rfl, h.lt⟩, fun b off e i hi => ?_⟩
  injection e with e
  injection e with e1 e2
  subst e1; subst e2
  rw [Nat.zero_add]
  exact h.cells i hi
theorem OwnB.below {w w' : World} {base g cap : Nat} {l : List UInt8} (h : OwnB w base g cap l) (hb : Below w.heap.size w w') : OwnB w' base g cap l :=
  ⟨h.base, Nat.lt_of_lt_of_le h.lt hb.size, h.len, h.capb, fun i hi => by rw [(bcell hb).1 _ _ h.lt]; exact h.cells i hi, fun i hi => by rw [(bcell hb).1 _ _ h.lt]; exact h.some i hi, fun i hi => by rw [(bcell hb).2 _ _ h.lt]; exact h.free i hi⟩
theorem OwnB.alloc {w : World} {base g cap : Nat} {l : List UInt8} (h : OwnB w base g cap l) (o : Obj) : OwnB (w.alloc o) base g cap l := h.below ((Below.refl _ _).alloc (Nat.le_refl _) o)
theorem OwnB.drew {w : World} {base g cap : Nat} {l : List UInt8} (h : OwnB w base g cap l) : OwnB w.drew base g cap l := ⟨h.base, h.lt, h.len, h.capb, h.cells, h.some, h.free⟩
theorem OwnB.le {w : World} {base base' g cap : Nat} {l : List UInt8} (h : OwnB w base g cap l) (hb : base' ≤ base) : OwnB w base' g cap l := ⟨Nat.le_trans hb h.base, h.lt, h.len, h.capb, h.cells, h.some, h.free⟩
theorem lBv_length (l : List UInt8) : (lBv l).length = l.length := by simp [lBv]
theorem lBv_get {l : List UInt8} {j : Nat} (hj : j < l.length) : (lBv l)[j]? = some (.int .u8 (((l.getD j 0).toNat : Nat) : Int)) := by
  simp [lBv, List.getD_eq_getElem?_getD, hj]
/-- A new row: a beginning that reads as l, cells behind it. -/
theorem ownB_row (w : World) (base : Nat) (C : Array Value) (lo hi cap : Nat) (l : List UInt8) (hb : base ≤ w.heap.size) (hc : C.size = cap) (hl : l.length ≤ cap) (hm : cap ≤ maxLen) (hr : ∀ i, i < l.length → C[i]? = some (.int .u8 (((l.getD i 0).toNat : Nat) : Int)))
    (hfr : cap ≤ lo ∨ hi = 0) : OwnB (w.alloc (.cells C 5 (lo, hi))) base w.heap.size cap l := by
  refine ⟨hb, by simp, hl, hm, fun i hi => ?_, fun i hi => ?_, fun i hi' => ?_⟩
  · rw [World.cell?_alloc_mark]; exact hr i hi
  · rw [World.cell?_alloc_mark, Array.getElem?_eq_getElem (by omega)]; rfl
  · rw [World.frozen?_alloc_mark]
    rcases hfr with h | h
    · rw [decide_eq_false (by omega)]; rfl
    · rw [h, decide_eq_false (p := i < 0) (by omega), Bool.and_false]
theorem ownB_lit (w : World) (base : Nat) (l : List UInt8) (lo hi : Nat) (C : Array Value) (hC : C = (lBv l).toArray) (hb : base ≤ w.heap.size) (hm : l.length ≤ maxLen) (hfr : l.length ≤ lo ∨ hi = 0) : OwnB (w.alloc (.cells C 5 (lo, hi))) base w.heap.size l.length l := by
  subst hC
  exact ownB_row w base _ lo hi _ l hb (by rw [List.size_toArray, lBv_length]) (Nat.le_refl _) hm (fun i hi => by rw [List.getElem?_toArray]; exact lBv_get hi) hfr
/-- The beginning of a slice of bytes. -/
theorem RdB.take {w : World} {B : Nat} {A : Option Addr} {l : List UInt8} (h : RdB w B A l) (n : Nat) : RdB w B A (l.take n) := by
  rcases h.place with rfl | ⟨b, off, e, hb⟩
  · exact ⟨.inl List.take_nil, fun _ _ _ i hi => by simp at hi⟩
  · refine ⟨.inr ⟨b, off, e, hb⟩, fun b' off' e' i hi => ?_⟩
    have hi' : i < l.length ∧ i < n := by rw [List.length_take] at hi; omega
    rw [h.cells b' off' e' i hi'.1]
    simp [List.getD_eq_getElem?_getD, hi'.2]
theorem RdB.more {w : World} {B B' : Nat} {A : Option Addr} {l : List UInt8} (h : RdB w B A l) (hb : B ≤ B') : RdB w B' A l :=
  ⟨h.place.imp id (fun ⟨b, off, e, hl⟩ => ⟨b, off, e, Nat.lt_of_lt_of_le hl hb⟩), h.cells⟩
/-- A slice of bytes that came in. -/
def ArgB (w : World) (v : Value) : Prop := ∃ A c l, v = .slice A (l : List UInt8).length c ∧ RdB w w.heap.size A l ∧ (A = none → c = 0) ∧ l.length ≤ c ∧ c ≤ maxLen
/-- The beginning of it. -/
theorem ArgB.cut {w : World} {v : Value} (h : ArgB w v) (n : Nat) : ∃ A c k l, v = .slice A k c ∧ RdB w w.heap.size A l ∧ (min (k : Int) (n : Int) = ((l : List UInt8).length : Int)) ∧ ((l.length : Nat) : Int) ≤ c ∧ c ≤ maxLen ∧ l.length ≤ n := by
  obtain ⟨A, c, l, rfl, h1, h2, h3, h4⟩ := h
  have hl : (l.take n).length = min n l.length := List.length_take
  exact ⟨A, c, l.length, l.take n, rfl, h1.take n, by omega, by omega, h4, by omega⟩
theorem pItemN.setCell {base : Nat} {v : Value} {it : Cal.Item} {w : World} {p : Addr} (u : Value) (h : pItemN base v it w) (hp : p.block < base) : pItemN base v it (w.setCell p u) := by
  obtain ⟨A, c, zs, e, h1, h2, h3, h4, h5, h6⟩ := h
  refine ⟨A, c, zs, e, ?_, h2, h3, h4, h5, h6⟩
  rw [size_setCell]
  exact RdU.apart h1 h6 hp
theorem pBlk.free {g : Nat} {cs : Array Value} {t : TypeId} {w : World} (h : pBlk g cs t w) (i : Nat) : w.frozen? ⟨g, i, none⟩ = false := by
  unfold pBlk at h
  simp [World.frozen?, h]
theorem pBlk.lt {g : Nat} {cs : Array Value} {t : TypeId} {w : World} (h : pBlk g cs t w) : g < w.heap.size := (Array.getElem?_eq_some_iff.1 h).1
end Go.Proofs.YtncfbleeidjflaaGreatDoor
namespace Go.Proofs.YtncfbleeidjflaaGreatDoor
open Go.RowKit Go.Cal
theorem strL_app (a b : List UInt8) : strL a ++ strL b = strL (a ++ b) := by
  unfold strL
  apply ByteArray.ext
  simp
end Go.Proofs.YtncfbleeidjflaaGreatDoor
namespace Go.Proofs.YtncfbleeidjflaaGreatDoor
open Go.RowKit Go.Cal
theorem pcaught_idle (g : Nat) (w : World) :
    CallsD Tryz.prog 262 #[.pointer (some ⟨g, 0, none⟩)] .returning w fun e u' w' => e = .returned (.tuple #[]) ∧ u' = .returning ∧ w' = w := by
  refine callsD_of_wpS Tryz.func262 rfl fun c₀ cs hu => ?_
  apply wpS_seq
  apply wpS_region
  simp [wpOpsS, go_sem, recoverD, hu, Tryz.ntmps262, Exit.thenS]
  refine wpS_of_wp ?_
  go_wp2
  cases c₀
  simp_all [bodyPostS, results, Tryz.results262]
set_option maxRecDepth 100000 in
set_option maxHeartbeats 1000000 in
theorem pvalue_any (n key : Nat) (hn : 2 ≤ n) (hn' : n ≤ 64) (h0 : 0 < key) (hkn : key < 2 ^ n) (w : World) (hT : TabD w) :
    Calls Tryz.prog 256 #[.int .i64 (n + 1), .int .u64 key] w fun e w' => e = .returned (.tuple #[.int .u64 ((oddP 64 (poF (poL n key) (key % 2 ^ poL n key)) (4 * poR n key + poE (poL n key) (key % 2 ^ poL n key) - (poL n key - 2 : Nat))).1 : Nat), .int .i64 (oddP 64 (poF (poL n key) (key % 2 ^ poL n key)) (4 * poR n key + poE (poL n key) (key % 2 ^ poL n key) - (poL n key - 2 : Nat))).2, .int .i64 0]) ∧ Below w.heap.size w w' := by
  have hv := fun w hT => pval_any n key hn hn' h0 hkn w hT
  generalize oddP 64 (poF (poL n key) (key % 2 ^ poL n key)) (4 * poR n key + poE (poL n key) (key % 2 ^ poL n key) - (poL n key - 2 : Nat)) = p at hv ⊢
  obtain ⟨m, e⟩ := p
  replace hv := Lib.hid hv
  go_enter_defers Tryz.func256, Tryz.ntmps256
  go_wp2_with fail
  refine (hv.out _ (hT.below ((Below.refl _ _).alloc (Nat.le_refl _) _))).mono ?_
  rintro e1 w1 ⟨rfl, hb⟩
  have hp := pBlk_st _ _ _ _ _ (pBlk_made w #[.int .i64 0] 24) hb
  have q0 := hp.cell 0 _ rfl
  have f0 := hp.free 0
  go_wp2
  show Leaves _ _ _ _ _ .returning _
  refine leaves_cons (f := 262) (args := #[.pointer (some ⟨w.heap.size, 0, none⟩)]) (by simp) (by simp [go_sem]) ?_
  refine (pcaught_idle w.heap.size _).mono ?_
  rintro e1 u1 w8 ⟨rfl, rfl, rfl⟩
  simp [Leaves, settle, results, Tryz.results256, go_sem, q0]
  exact (((Below.refl _ _).alloc (Nat.le_refl _) _).trans (hb.mono (by simp))).setCell (p := ⟨w.heap.size, 0, none⟩) (Nat.le_refl _) _
end Go.Proofs.YtncfbleeidjflaaGreatDoor
