/- Regions: six operations in any order; a map of six functions. Conditions: none. -/
/- Plain: what a script does with a quire's bits and with what is told; beginnings, joins, rounds. Conditions: none. -/
/- Script: the state of its runner. Conditions: none. -/
import Derived.Test.YtobokaafmcfeaaaGreatDoorSk32
import Derived.Maps.OwnSet
import Derived.Deep.RegionHeld3
import Derived.Test.YtobokaafmcfeaaaGreatDoorSk27
namespace Go.Proofs.YtobokaafmcfeaaaGreatDoor
open Go.RowKit Go.Cal
section
variable {P : Program} {ops : Array Oper} {Q : Exit → Act → World → Prop} {md : Region.Mode} {S : World → Prop}
theorem wpAnyH_cast {fuel : Nat} {l l' : Array Bool} {a a' : Act} {w : World} (hl : l = l') (ha : a = a') (h : wpAnyH P md ops Q S fuel l' a' w) : wpAnyH P md ops Q S fuel l a w := by
  subst hl; subst ha; exact h
/-- Six operations of a region that may come in any order: what is so behind each of them is told by which of them have come. -/
theorem six_sets {a : Act} (i0 i1 i2 i3 i4 i5 n : Nat) (L : Bool → Bool → Bool → Bool → Bool → Bool → Array Bool) (I : Bool → Bool → Bool → Bool → Bool → Bool → World → Prop)
    (hr : ∀ b0 b1 b2 b3 b4 b5, (b0 && b1 && b2 && b3 && b4 && b5) = false → Region.ready md ops (L b0 b1 b2 b3 b4 b5) = (if b0 then [] else [i0]) ++ ((if b1 then [] else [i1]) ++ ((if b2 then [] else [i2]) ++ ((if b3 then [] else [i3]) ++ ((if b4 then [] else [i4]) ++ (if b5 then [] else [i5]))))))
    (s0 : ∀ b1 b2 b3 b4 b5, (L false b1 b2 b3 b4 b5).setIfInBounds i0 true = L true b1 b2 b3 b4 b5)
    (s1 : ∀ b0 b2 b3 b4 b5, (L b0 false b2 b3 b4 b5).setIfInBounds i1 true = L b0 true b2 b3 b4 b5)
    (s2 : ∀ b0 b1 b3 b4 b5, (L b0 b1 false b3 b4 b5).setIfInBounds i2 true = L b0 b1 true b3 b4 b5)
    (s3 : ∀ b0 b1 b2 b4 b5, (L b0 b1 b2 false b4 b5).setIfInBounds i3 true = L b0 b1 b2 true b4 b5)
    (s4 : ∀ b0 b1 b2 b3 b5, (L b0 b1 b2 b3 false b5).setIfInBounds i4 true = L b0 b1 b2 b3 true b5)
    (s5 : ∀ b0 b1 b2 b3 b4, (L b0 b1 b2 b3 b4 false).setIfInBounds i5 true = L b0 b1 b2 b3 b4 true)
    (o0 : ∀ b1 b2 b3 b4 b5 w, S w → I false b1 b2 b3 b4 b5 w → wpOp P ops Q i0 (fun a' w' => a' = a ∧ S w' ∧ I true b1 b2 b3 b4 b5 w') a w)
    (o1 : ∀ b0 b2 b3 b4 b5 w, S w → I b0 false b2 b3 b4 b5 w → wpOp P ops Q i1 (fun a' w' => a' = a ∧ S w' ∧ I b0 true b2 b3 b4 b5 w') a w)
    (o2 : ∀ b0 b1 b3 b4 b5 w, S w → I b0 b1 false b3 b4 b5 w → wpOp P ops Q i2 (fun a' w' => a' = a ∧ S w' ∧ I b0 b1 true b3 b4 b5 w') a w)
    (o3 : ∀ b0 b1 b2 b4 b5 w, S w → I b0 b1 b2 false b4 b5 w → wpOp P ops Q i3 (fun a' w' => a' = a ∧ S w' ∧ I b0 b1 b2 true b4 b5 w') a w)
    (o4 : ∀ b0 b1 b2 b3 b5 w, S w → I b0 b1 b2 b3 false b5 w → wpOp P ops Q i4 (fun a' w' => a' = a ∧ S w' ∧ I b0 b1 b2 b3 true b5 w') a w)
    (o5 : ∀ b0 b1 b2 b3 b4 w, S w → I b0 b1 b2 b3 b4 false w → wpOp P ops Q i5 (fun a' w' => a' = a ∧ S w' ∧ I b0 b1 b2 b3 b4 true w') a w)
    (he : ∀ w, S w → I true true true true true true w → wpAnyH P md ops Q S n (L true true true true true true) a w) :
    ∀ (c : Nat) (b0 b1 b2 b3 b4 b5 : Bool) (w : World), (if b0 then 0 else 1) + (if b1 then 0 else 1) + (if b2 then 0 else 1) + (if b3 then 0 else 1) + (if b4 then 0 else 1) + (if b5 then 0 else 1) = c →
      S w → I b0 b1 b2 b3 b4 b5 w → wpAnyH P md ops Q S (n + c) (L b0 b1 b2 b3 b4 b5) a w := by
  intro c
  induction c with
  | zero =>
    intro b0 b1 b2 b3 b4 b5 w hc hS hI
    cases b0 <;> cases b1 <;> cases b2 <;> cases b3 <;> cases b4 <;> cases b5 <;> first | exact he w hS hI | simp at hc
  | succ c ih =>
    intro b0 b1 b2 b3 b4 b5 w hc hS hI
    have hne : (b0 && b1 && b2 && b3 && b4 && b5) = false := by
      cases b0 <;> cases b1 <;> cases b2 <;> cases b3 <;> cases b4 <;> cases b5 <;> first | rfl | simp at hc
    refine wpAnyH_all (fuel := n + c) (hr b0 b1 b2 b3 b4 b5 hne) ?_ ?_
    · cases b0 <;> cases b1 <;> cases b2 <;> cases b3 <;> cases b4 <;> cases b5 <;> first | (simp at hne; done) | (simp; done)
    · intro i hi
      simp only [List.mem_append] at hi
      rcases hi with hi | hi | hi | hi | hi | hi
      · cases b0 with
        | true => simp at hi
        | false =>
          obtain rfl : i = i0 := by simpa using hi
          refine wpOp_mono ?_ (o0 b1 b2 b3 b4 b5 w hS hI)
          rintro a' w' ⟨rfl, hS', hI'⟩
          refine ⟨hS', ?_⟩
          rw [s0]
          refine ih true b1 b2 b3 b4 b5 w' ?_ hS' hI'
          simp at hc ⊢; omega
      · cases b1 with
        | true => simp at hi
        | false =>
          obtain rfl : i = i1 := by simpa using hi
          refine wpOp_mono ?_ (o1 b0 b2 b3 b4 b5 w hS hI)
          rintro a' w' ⟨rfl, hS', hI'⟩
          refine ⟨hS', ?_⟩
          rw [s1]
          refine ih b0 true b2 b3 b4 b5 w' ?_ hS' hI'
          simp at hc ⊢; omega
      · cases b2 with
        | true => simp at hi
        | false =>
          obtain rfl : i = i2 := by simpa using hi
          refine wpOp_mono ?_ (o2 b0 b1 b3 b4 b5 w hS hI)
          rintro a' w' ⟨rfl, hS', hI'⟩
          refine ⟨hS', ?_⟩
          rw [s2]
          refine ih b0 b1 true b3 b4 b5 w' ?_ hS' hI'
          simp at hc ⊢; omega
      · cases b3 with
        | true => simp at hi
        | false =>
          obtain rfl : i = i3 := by simpa using hi
          refine wpOp_mono ?_ (o3 b0 b1 b2 b4 b5 w hS hI)
          rintro a' w' ⟨rfl, hS', hI'⟩
          refine ⟨hS', ?_⟩
          rw [s3]
          refine ih b0 b1 b2 true b4 b5 w' ?_ hS' hI'
          simp at hc ⊢; omega
      · cases b4 with
        | true => simp at hi
        | false =>
          obtain rfl : i = i4 := by simpa using hi
          refine wpOp_mono ?_ (o4 b0 b1 b2 b3 b5 w hS hI)
          rintro a' w' ⟨rfl, hS', hI'⟩
          refine ⟨hS', ?_⟩
          rw [s4]
          refine ih b0 b1 b2 b3 true b5 w' ?_ hS' hI'
          simp at hc ⊢; omega
      · cases b5 with
        | true => simp at hi
        | false =>
          obtain rfl : i = i5 := by simpa using hi
          refine wpOp_mono ?_ (o5 b0 b1 b2 b3 b4 w hS hI)
          rintro a' w' ⟨rfl, hS', hI'⟩
          refine ⟨hS', ?_⟩
          rw [s5]
          refine ih b0 b1 b2 b3 b4 true w' ?_ hS' hI'
          simp at hc ⊢; omega
theorem wpOp_insert {i : Nat} {K : Act → World → Prop} {a : Act} {w w' : World} {o : Oper} (ho : ops[i]? = some o) (hg : o.guard = none) {t : TypeId} {m x v : Operand} (hop : o.op = Op.insert t m x v)
    (hrun : (Instr.mapUpdate t (a.eval m) (a.eval x) (a.eval v)).run P w = .ok () w') (hK : K (a.put o.dst undef) w') : wpOp P ops Q i K a w := by
  have hw : Region.wanted o (yielded ops a.tmps) = true := by simp [Region.wanted, hg]
  unfold wpOp
  rw [ho]
  simp only [hw, if_true]
  refine .inl ?_
  unfold Oper.wp
  simp [execOp, hop, hrun, Result.andThen]
  exact hK
end
/-- What the six entries read as: their numbers. -/
def D6 (b0 b1 b2 b3 b4 b5 : Bool) : DataW Unit :=
  .map ((if b0 then [(.int .u8 0, .lit (.int .i64 0))] else []) ++ ((if b1 then [(.int .u8 1, .lit (.int .i64 1))] else []) ++ ((if b2 then [(.int .u8 2, .lit (.int .i64 2))] else []) ++ ((if b3 then [(.int .u8 3, .lit (.int .i64 3))] else []) ++ ((if b4 then [(.int .u8 4, .lit (.int .i64 4))] else []) ++ (if b5 then [(.int .u8 5, .lit (.int .i64 5))] else []))))))
theorem D6_0 (b1 b2 b3 b4 b5 : Bool) : (D6 false b1 b2 b3 b4 b5).put (.int .u8 0) (.lit (.int .i64 0)) = D6 true b1 b2 b3 b4 b5 := by cases b1 <;> cases b2 <;> cases b3 <;> cases b4 <;> cases b5 <;> rfl
theorem D6_1 (b0 b2 b3 b4 b5 : Bool) : (D6 b0 false b2 b3 b4 b5).put (.int .u8 1) (.lit (.int .i64 1)) = D6 b0 true b2 b3 b4 b5 := by cases b0 <;> cases b2 <;> cases b3 <;> cases b4 <;> cases b5 <;> rfl
theorem D6_2 (b0 b1 b3 b4 b5 : Bool) : (D6 b0 b1 false b3 b4 b5).put (.int .u8 2) (.lit (.int .i64 2)) = D6 b0 b1 true b3 b4 b5 := by cases b0 <;> cases b1 <;> cases b3 <;> cases b4 <;> cases b5 <;> rfl
theorem D6_3 (b0 b1 b2 b4 b5 : Bool) : (D6 b0 b1 b2 false b4 b5).put (.int .u8 3) (.lit (.int .i64 3)) = D6 b0 b1 b2 true b4 b5 := by cases b0 <;> cases b1 <;> cases b2 <;> cases b4 <;> cases b5 <;> rfl
theorem D6_4 (b0 b1 b2 b3 b5 : Bool) : (D6 b0 b1 b2 b3 false b5).put (.int .u8 4) (.lit (.int .i64 4)) = D6 b0 b1 b2 b3 true b5 := by cases b0 <;> cases b1 <;> cases b2 <;> cases b3 <;> cases b5 <;> rfl
theorem D6_5 (b0 b1 b2 b3 b4 : Bool) : (D6 b0 b1 b2 b3 b4 false).put (.int .u8 5) (.lit (.int .i64 5)) = D6 b0 b1 b2 b3 b4 true := by cases b0 <;> cases b1 <;> cases b2 <;> cases b3 <;> cases b4 <;> rfl
/-- A reading of six values and of a seventh one, by their numbers. -/
def Reads7 (R : Value → Option (DataW Unit × List MemPlace)) (V : Nat → Value) : Prop :=
  (∀ i, i < 7 → R (V i) = some (.lit (.int .i64 (i : Nat)), [])) ∧ ∀ v i ps, i < 7 → R v = some (.lit (.int .i64 (i : Nat)), ps) → v = V i
theorem reads7 (V : Nat → Value) (hV : ∀ i j, i < 7 → j < 7 → V i = V j → i = j) : ∃ R, Reads7 R V := by
  classical
  refine ⟨fun v => if h : ∃ i, i < 7 ∧ V i = v then some (.lit (.int .i64 ((Classical.choose h : Nat) : Int)), []) else none, fun i hi => ?_, fun v i ps hi hv => ?_⟩
  · have h : ∃ j, j < 7 ∧ V j = V i := ⟨i, hi, rfl⟩
    have hs := Classical.choose_spec h
    have he := hV _ _ hs.1 hi hs.2
    simp only [dif_pos h]
    rw [he]
  · simp only at hv
    split at hv
    · rename_i h
      have hs := Classical.choose_spec h
      simp only [Option.some.injEq, Prod.mk.injEq, DataW.lit.injEq, Lit.int.injEq] at hv
      have he : Classical.choose h = i := by have := hv.1.2; omega
      rw [← hs.2, he]
    · cases hv
/-- The block b is a map of these six functions. -/
def FunMap (P : Program) (k : TypeId) (b : Nat) (V : Nat → Value) (w : World) : Prop := ∃ R n, Reads7 R V ∧ w.ownsMap P k R b n (D6 true true true true true true)
theorem FunMap.same {P : Program} {k : TypeId} {b : Nat} {V : Nat → Value} {w w' : World} (h : FunMap P k b V w) (e : w'.heap[b]? = w.heap[b]?) : FunMap P k b V w' := by
  obtain ⟨R, n, hR, es, clock, hb, F, hs, hD⟩ := h
  exact ⟨R, n, hR, es, clock, e.trans hb, F, hs, hD⟩
theorem FunMap.lt {P : Program} {k : TypeId} {b : Nat} {V : Nat → Value} {w : World} (h : FunMap P k b V w) : b < w.heap.size := by
  obtain ⟨R, n, hR, hm⟩ := h
  exact hm.lt
theorem FunMap.look {P : Program} {k t e : TypeId} {b : Nat} {V : Nat → Value} {w : World} (h : FunMap P k b V w) (hk : P.underlying k = some (.int .u8)) (ht : P.underlying t = some (.map k e)) (hz : (zeroValue e).run P w = .ok (V 6) w) (c : Nat) (hc : c < 256) :
    (Instr.lookup t (.map (some b)) (.int .u8 (c : Nat)) true).run P w = .ok (.tuple #[V (if c < 6 then c else 6), .bool (decide (c < 6))]) w := by
  obtain ⟨R, n, ⟨r1, r2⟩, hm⟩ := h
  have hwf : (Lit.int .u8 (c : Int)).wf = true := by simp [Lit.wf, IntKind.min, IntKind.max, IntKind.signed, IntKind.bits]; omega
  obtain ⟨v, ps, hrun, hv⟩ := hm.look_ok (Maps.int_keyed hk) ht hz (r1 6 (by omega)) (Maps.keyOf_int_mk hk hwf)
  rw [hrun]
  by_cases h6 : c < 6
  · have h : c = 0 ∨ c = 1 ∨ c = 2 ∨ c = 3 ∨ c = 4 ∨ c = 5 := by omega
    rcases h with rfl | rfl | rfl | rfl | rfl | rfl
    · rw [r2 v 0 ps (by omega) hv]; rfl
    · rw [r2 v 1 ps (by omega) hv]; rfl
    · rw [r2 v 2 ps (by omega) hv]; rfl
    · rw [r2 v 3 ps (by omega) hv]; rfl
    · rw [r2 v 4 ps (by omega) hv]; rfl
    · rw [r2 v 5 ps (by omega) hv]; rfl
  · have hh : Maps.has (D6 true true true true true true) (.int .u8 (c : Int)) = false := by
      simp [Maps.has, D6, Lit.sameKey]; omega
    have ha : (D6 true true true true true true).atKey (.int .u8 (c : Int)) (.lit (.int .i64 ((6 : Nat) : Int))) = .lit (.int .i64 ((6 : Nat) : Int)) := by
      have g : ∀ k : Int, k ≤ 5 → (Lit.int IntKind.u8 k).sameKey (.int .u8 (c : Int)) = false := fun k hk => by simp [Lit.sameKey]; omega
      simp [DataW.atKey, D6, g]
    rw [hh]
    rw [ha] at hv
    rw [r2 v 6 ps (by omega) hv, if_neg h6]
    simp [h6]
end Go.Proofs.YtobokaafmcfeaaaGreatDoor
namespace Go.Proofs.YtobokaafmcfeaaaGreatDoor
open Go.RowKit Go.Cal
/-- A number times ten to a power, in the quire's lowest bits. -/
def ldN (id : Int) (neg : Bool) (N : Nat) (k : Int) : Option Nat :=
  let p := N * 5 ^ k.toNat * 2 ^ (k - quL id).toNat
  let q := 5 ^ (-k).toNat * 2 ^ (quL id - k).toNat
  if p % q = 0 ∧ p / q < 2 ^ (quS id - 1) then some (if neg = true then quT id (p / q) else p / q) else none
/-- What a text is to a quire: the error, and the bits. -/
def ldV (id : Int) (l : List UInt8) : Nat × Nat :=
  if (textS l).1 = false then (2, 0) else
  if (textV 1125899906842624 l).kind = 4 then (0, quN id) else
  if (textV 1125899906842624 l).kind = 1 ∧ (textV 1125899906842624 l).big = 0 then
    match ldN id (textV 1125899906842624 l).neg (textV 1125899906842624 l).d (textV 1125899906842624 l).k with
    | some n => (0, n)
    | none => (8, 0)
  else (8, 0)
/-- What has become of a script: the error, how many bytes are done, the bits, and what was told. -/
structure ScR where
  err : Nat
  used : Nat
  X : Nat
  O : List Nat
deriving DecidableEq
def ldS (id : Int) (X : Nat) (O : List Nat) : List UInt8 → ScR
  | [] => ⟨2, 0, X, O⟩
  | m :: s => if s.length < m.toNat then ⟨2, 0, X, O⟩ else
    if (ldV id (s.take m.toNat)).1 = 0 then ⟨0, 2 + m.toNat, (ldV id (s.take m.toNat)).2, O⟩ else ⟨(ldV id (s.take m.toNat)).1, 0, X, O⟩
def stepP (id : Int) (X : Nat) (O : List Nat) : List UInt8 → ScR
  | [] => ⟨2, 0, X, O⟩
  | c :: r =>
    if c = 0 then ⟨0, 1, 0, O⟩
    else if c = 1 ∨ c = 2 then
      if r.length < (fW id).toNat / 8 + (fW id).toNat / 8 then ⟨2, 0, X, O⟩
      else ⟨0, 1 + (fW id).toNat / 8 + (fW id).toNat / 8, quDo id X (patN (r.take ((fW id).toNat / 8)) 0 : Nat) (patN ((r.drop ((fW id).toNat / 8)).take ((fW id).toNat / 8)) 0 : Nat) (c == 2), O⟩
    else if c = 3 then ⟨0, 1, quNg id X, O⟩
    else if c = 4 then ⟨0, 1, X, O ++ [(quP id X).toNat]⟩
    else if c = 5 then ldS id X O r
    else ⟨1, 0, X, O⟩
def runP (id : Int) : Nat → Nat → List Nat → List UInt8 → ScR
  | _, X, O, [] => ⟨0, 0, X, O⟩
  | 0, X, O, _ :: _ => ⟨6, 0, X, O⟩
  | n + 1, X, O, c :: r =>
    if (stepP id X O (c :: r)).err = 0 then
      ⟨(runP id n (stepP id X O (c :: r)).X (stepP id X O (c :: r)).O ((c :: r).drop (stepP id X O (c :: r)).used)).err,
       (stepP id X O (c :: r)).used + (runP id n (stepP id X O (c :: r)).X (stepP id X O (c :: r)).O ((c :: r).drop (stepP id X O (c :: r)).used)).used,
       (runP id n (stepP id X O (c :: r)).X (stepP id X O (c :: r)).O ((c :: r).drop (stepP id X O (c :: r)).used)).X,
       (runP id n (stepP id X O (c :: r)).X (stepP id X O (c :: r)).O ((c :: r).drop (stepP id X O (c :: r)).used)).O⟩
    else ⟨(stepP id X O (c :: r)).err, 0, X, O⟩
theorem runP_nil (id : Int) (n X : Nat) (O : List Nat) : runP id n X O [] = ⟨0, 0, X, O⟩ := by cases n <;> rfl
theorem runP_ok {id : Int} {n X : Nat} {O : List Nat} {c : UInt8} {r : List UInt8} {u X' : Nat} {O' : List Nat} (h : stepP id X O (c :: r) = ⟨0, u, X', O'⟩) :
    runP id (n + 1) X O (c :: r) = ⟨(runP id n X' O' ((c :: r).drop u)).err, u + (runP id n X' O' ((c :: r).drop u)).used, (runP id n X' O' ((c :: r).drop u)).X, (runP id n X' O' ((c :: r).drop u)).O⟩ := by
  rw [runP, h]; rfl
theorem runP_no {id : Int} {n X : Nat} {O : List Nat} {c : UInt8} {r : List UInt8} (h : (stepP id X O (c :: r)).err ≠ 0) :
    runP id (n + 1) X O (c :: r) = ⟨(stepP id X O (c :: r)).err, 0, X, O⟩ := by
  rw [runP, if_neg h]
theorem step_used {id : Int} {X : Nat} {O : List Nat} {l : List UInt8} (h : (stepP id X O l).err = 0) : 1 ≤ (stepP id X O l).used ∧ (stepP id X O l).used ≤ l.length := by
  cases l with
  | nil => simp [stepP] at h
  | cons c r =>
    revert h
    rw [stepP]
    split
    · intro _; simp
    split
    · split
      · intro h; simp at h
      · intro _; simp; omega
    split
    · intro _; simp
    split
    · intro _; simp
    split
    · cases r with
      | nil => intro h; simp [ldS] at h
      | cons m s =>
        rw [ldS]
        split
        · intro h; simp at h
        split
        · intro _; simp; omega
        · intro h; rename_i hq; exact absurd h hq
    · intro h; simp at h
theorem step_outs (id : Int) (X : Nat) (O : List Nat) (l : List UInt8) : ∃ m, (stepP id X O l).O = O ++ m ∧ m.length ≤ 1 := by
  cases l with
  | nil => exact ⟨[], by simp [stepP], by simp⟩
  | cons c r =>
    rw [stepP]
    split
    · exact ⟨[], by simp, by simp⟩
    split
    · split <;> exact ⟨[], by simp, by simp⟩
    split
    · exact ⟨[], by simp, by simp⟩
    split
    · exact ⟨_, rfl, by simp⟩
    split
    · cases r with
      | nil => exact ⟨[], by simp [ldS], by simp⟩
      | cons k s =>
        rw [ldS]
        split
        · exact ⟨[], by simp, by simp⟩
        split <;> exact ⟨[], by simp, by simp⟩
    · exact ⟨[], by simp, by simp⟩
theorem step_lt {id : Int} (h1 : 1 ≤ id) (h4 : id ≤ 4) {X : Nat} {O : List Nat} {l : List UInt8} (hX : X < 2 ^ quS id) : (stepP id X O l).X < 2 ^ quS id := by
  cases l with
  | nil => exact hX
  | cons c r =>
    have h8 : (fW id).toNat / 8 ≤ 8 := by obtain ⟨-, -, -, -, s5⟩ := quS_bnd h1 h4; omega
    rw [stepP]
    split
    · exact Nat.two_pow_pos _
    split
    · split
      · exact hX
      · exact quDo_lt h1 h4 hX (Int.natCast_nonneg _) (Int.natCast_nonneg _)
    split
    · exact quNg_lt hX
    split
    · exact hX
    split
    · cases r with
      | nil => exact hX
      | cons k s =>
        rw [ldS]
        split
        · exact hX
        split
        · simp only
          unfold ldV
          split
          · exact Nat.two_pow_pos _
          split
          · exact (quN_lt h1 h4).1
          split
          · split
            · rename_i n hn
              unfold ldN at hn
              simp only at hn
              split at hn
              · rename_i hc
                injection hn with hn
                have h2 : 2 ^ (quS id - 1) ≤ 2 ^ quS id := Nat.pow_le_pow_right (by decide) (by omega)
                have h3 := Nat.lt_of_lt_of_le hc.2 h2
                subst hn
                show (if _ then _ else _) < _
                split
                · exact quT_lt h3
                · exact h3
              · cases hn
            · exact Nat.two_pow_pos _
          · exact Nat.two_pow_pos _
        · exact hX
    · exact hX
theorem ld_cross (Y a b : Nat) (k L : Int) (h2 : Y % 2 = 1) (h5 : Y % 5 ≠ 0) :
    (k + a - L < 0 ∨ k + b < 0 → (Y * 2 ^ a * 5 ^ b * 5 ^ k.toNat * 2 ^ (k - L).toNat) % (5 ^ (-k).toNat * 2 ^ (L - k).toNat) ≠ 0) ∧
    (0 ≤ k + a - L → 0 ≤ k + b → (Y * 2 ^ a * 5 ^ b * 5 ^ k.toNat * 2 ^ (k - L).toNat) % (5 ^ (-k).toNat * 2 ^ (L - k).toNat) = 0 ∧
      (Y * 2 ^ a * 5 ^ b * 5 ^ k.toNat * 2 ^ (k - L).toNat) / (5 ^ (-k).toNat * 2 ^ (L - k).toNat) = Y * 5 ^ (k + b).toNat * 2 ^ (k + a - L).toNat) := by
  constructor
  · intro h hm
    have hd := Nat.dvd_of_mod_eq_zero hm
    rcases h with h | h
    · have e1 : (k - L).toNat = 0 := by omega
      have e2 : (L - k).toNat = a + ((L - k).toNat - a - 1) + 1 := by omega
      have h3 : 2 ^ (a + 1) ∣ Y * 2 ^ a * 5 ^ b * 5 ^ k.toNat * 2 ^ (k - L).toNat :=
        Nat.dvd_trans (Nat.dvd_trans (Nat.pow_dvd_pow 2 (show a + 1 ≤ (L - k).toNat by omega)) (Nat.dvd_mul_left _ _)) hd
      rw [e1, Nat.pow_zero, Nat.mul_one, show Y * 2 ^ a * 5 ^ b * 5 ^ k.toNat = (Y * (5 ^ b * 5 ^ k.toNat)) * 2 ^ a by ac_rfl, Nat.pow_succ, Nat.mul_comm (2 ^ a) 2] at h3
      have h4 := Nat.dvd_of_mul_dvd_mul_right (Nat.two_pow_pos a) h3
      rw [← Nat.pow_add] at h4
      have h6 := Nat.Coprime.dvd_of_dvd_mul_right (Nat.Coprime.pow_right (b + k.toNat) (by decide : Nat.Coprime 2 5)) h4
      omega
    · have e1 : k.toNat = 0 := by omega
      have h3 : 5 ^ (b + 1) ∣ Y * 2 ^ a * 5 ^ b * 5 ^ k.toNat * 2 ^ (k - L).toNat :=
        Nat.dvd_trans (Nat.dvd_trans (Nat.pow_dvd_pow 5 (show b + 1 ≤ (-k).toNat by omega)) (Nat.dvd_mul_right _ _)) hd
      rw [e1, Nat.pow_zero, Nat.mul_one, show Y * 2 ^ a * 5 ^ b * 2 ^ (k - L).toNat = (Y * (2 ^ a * 2 ^ (k - L).toNat)) * 5 ^ b by ac_rfl, Nat.pow_succ, Nat.mul_comm (5 ^ b) 5] at h3
      have h4 := Nat.dvd_of_mul_dvd_mul_right (Nat.pow_pos (by decide)) h3
      rw [← Nat.pow_add] at h4
      have h6 := Nat.Coprime.dvd_of_dvd_mul_right (Nat.Coprime.pow_right (a + (k - L).toNat) (by decide : Nat.Coprime 5 2)) h4
      omega
  · intro ht hf
    have e1 : b + k.toNat = (k + b).toNat + (-k).toNat := by omega
    have e2 : a + (k - L).toNat = (k + a - L).toNat + (L - k).toNat := by omega
    have e : Y * 2 ^ a * 5 ^ b * 5 ^ k.toNat * 2 ^ (k - L).toNat = Y * 5 ^ (k + b).toNat * 2 ^ (k + a - L).toNat * (5 ^ (-k).toNat * 2 ^ (L - k).toNat) := by
      calc _ = Y * (5 ^ b * 5 ^ k.toNat) * (2 ^ a * 2 ^ (k - L).toNat) := by ac_rfl
        _ = Y * (5 ^ (k + b).toNat * 5 ^ (-k).toNat) * (2 ^ (k + a - L).toNat * 2 ^ (L - k).toNat) := by rw [← Nat.pow_add, ← Nat.pow_add, e1, e2, Nat.pow_add, Nat.pow_add]
        _ = _ := by ac_rfl
    have hq : 0 < 5 ^ (-k).toNat * 2 ^ (L - k).toNat := Nat.mul_pos (Nat.pow_pos (by decide)) (Nat.two_pow_pos _)
    rw [e]
    exact ⟨Nat.mul_mod_left _ _, Nat.mul_div_cancel _ hq⟩
/-- What a number without twos and fives beside is to the quire. -/
theorem ldN_red {id : Int} {neg : Bool} {Y a b : Nat} {k : Int} (h0 : 0 < Y) (h2 : Y % 2 = 1) (h5 : Y % 5 ≠ 0) :
    ldN id neg (Y * 2 ^ a * 5 ^ b) k = if k + a - quL id < 0 ∨ k + b < 0 ∨ (quS id : Int) < k + a - quL id ∨ (quS id : Int) < k + b then none else
      if Y * 5 ^ (k + b).toNat * 2 ^ (k + a - quL id).toNat < 2 ^ (quS id - 1) then some (if neg = true then quT id (Y * 5 ^ (k + b).toNat * 2 ^ (k + a - quL id).toNat) else Y * 5 ^ (k + b).toNat * 2 ^ (k + a - quL id).toNat) else none := by
  obtain ⟨c1, c2⟩ := ld_cross Y a b k (quL id) h2 h5
  unfold ldN
  simp only
  by_cases h : k + a - quL id < 0 ∨ k + b < 0
  · rw [if_neg (fun hc => c1 h hc.1), if_pos (by omega)]
  · obtain ⟨d1, d2⟩ := c2 (by omega) (by omega)
    rw [d2]
    by_cases hg : (quS id : Int) < k + a - quL id ∨ (quS id : Int) < k + b
    · rw [if_pos (show k + a - quL id < 0 ∨ k + b < 0 ∨ (quS id : Int) < k + a - quL id ∨ (quS id : Int) < k + b by omega), if_neg]
      rintro ⟨-, hc⟩
      rcases hg with hg | hg
      · have h3 : 2 ^ (quS id - 1) ≤ 2 ^ (k + a - quL id).toNat := Nat.pow_le_pow_right (by decide) (by omega)
        have h4 : 2 ^ (k + a - quL id).toNat ≤ Y * 5 ^ (k + b).toNat * 2 ^ (k + a - quL id).toNat := Nat.le_mul_of_pos_left _ (Nat.mul_pos h0 (Nat.pow_pos (by decide)))
        omega
      · have h3 : 2 ^ (quS id - 1) ≤ 2 ^ (k + b).toNat := Nat.pow_le_pow_right (by decide) (by omega)
        have h4 : 2 ^ (k + b).toNat ≤ 5 ^ (k + b).toNat := Nat.pow_le_pow_left (by decide) _
        have h6 : 5 ^ (k + b).toNat ≤ Y * 5 ^ (k + b).toNat * 2 ^ (k + a - quL id).toNat :=
          Nat.le_trans (Nat.le_mul_of_pos_left _ h0) (Nat.le_mul_of_pos_right _ (Nat.two_pow_pos _))
        omega
    · rw [if_neg (show ¬ (k + a - quL id < 0 ∨ k + b < 0 ∨ (quS id : Int) < k + a - quL id ∨ (quS id : Int) < k + b) by omega)]
      by_cases hl : Y * 5 ^ (k + b).toNat * 2 ^ (k + a - quL id).toNat < 2 ^ (quS id - 1)
      · rw [if_pos ⟨d1, hl⟩, if_pos hl]
      · rw [if_neg (fun hc => hl hc.2), if_neg hl]
theorem ldN_zero {id : Int} {neg : Bool} {k : Int} : ldN id neg 0 k = some 0 := by
  unfold ldN
  simp [quT]
end Go.Proofs.YtobokaafmcfeaaaGreatDoor
namespace Go.Proofs.YtobokaafmcfeaaaGreatDoor
open Go.RowKit Go.Cal
/-- The six operations, as values; behind them none. -/
def runV (g rb bx : Nat) : Nat → Value
  | 0 => .func (.func 32) #[.pointer (some ⟨g, 0, none⟩)] #[]
  | 1 => .func (.func 187) #[] #[.pointer (some ⟨bx, 0, none⟩)]
  | 2 => .func (.func 189) #[] #[.pointer (some ⟨bx, 0, none⟩)]
  | 3 => .func (.func 35) #[.pointer (some ⟨g, 0, none⟩)] #[]
  | 4 => .func (.func 190) #[] #[.pointer (some ⟨bx, 0, none⟩)]
  | 5 => .func (.func 191) #[.pointer (some ⟨rb, 0, none⟩)] #[]
  | _ => .nilFunc
theorem runV_apart (g rb bx : Nat) (i j : Nat) (hi : i < 7) (hj : j < 7) (h : runV g rb bx i = runV g rb bx j) : i = j := by
  have h1 : i = 0 ∨ i = 1 ∨ i = 2 ∨ i = 3 ∨ i = 4 ∨ i = 5 ∨ i = 6 := by omega
  have h2 : j = 0 ∨ j = 1 ∨ j = 2 ∨ j = 3 ∨ j = 4 ∨ j = 5 ∨ j = 6 := by omega
  rcases h1 with rfl | rfl | rfl | rfl | rfl | rfl | rfl <;> rcases h2 with rfl | rfl | rfl | rfl | rfl | rfl | rfl <;> first | rfl | (exfalso; simp [runV] at h)
/-- Where the parts of a run lie. -/
structure Geo (w0 : World) (base g rb bx mb : Nat) : Prop where
  g0 : w0.heap.size ≤ g
  r0 : w0.heap.size ≤ rb
  b0 : w0.heap.size ≤ bx
  m0 : w0.heap.size ≤ mb
  g1 : g < base
  r1 : rb < base
  b1 : bx < base
  m1 : mb < base
  gr : g ≠ rb
  gb : g ≠ bx
  gm : g ≠ mb
  rx : rb ≠ bx
  rm : rb ≠ mb
/-- The state of a run: the bits X, what was told O, how far it has come p. -/
structure StV (w0 : World) (base g rb bx mb n c : Nat) (id wd : Int) (B : Option Addr) (E : Nat → Array Value → TypeId → Prop) (Ov : Value) (X : Nat) (O : List Nat) (p : Nat) (w : World) : Prop where
  below : Below w0.heap.size w0 w
  bs : base ≤ w.heap.size
  run : pBlk rb #[.pointer (some ⟨g, 0, none⟩), .int .i64 wd, .slice B n c, .int .i64 (p : Nat), Ov] 141 w
  row : w.ownsRow base 22 1 Ov O.length (lU O)
  qu : QuF (fun b => Ov.ownBlock = some b) g id X w
  box : pBlk bx #[.pointer (some ⟨rb, 0, none⟩)] 139 w
  map : FunMap Tryz.prog 5 mb (runV g rb bx) w
  ext : ∀ k cs t, E k cs t → pBlk k cs t w ∧ k ≠ g ∧ k ≠ rb ∧ Ov.ownBlock ≠ some k
section
variable {w0 w w' : World} {base g rb bx mb n c X p : Nat} {id wd : Int} {B : Option Addr} {E : Nat → Array Value → TypeId → Prop} {Ov : Value} {O : List Nat}
theorem grown_below (h : Below w.heap.size w w') : w.grownBy w' none := ⟨h.os, h.tape, h.output, h.size, fun k hk _ => h.block k hk⟩
theorem grown_mut {x : Nat} (h : Mut x w w') : w.grownBy w' (some x) := ⟨h.os, h.tape, h.output, h.size, fun k hk hne => h.block k hk (fun e => hne (by rw [e]))⟩
theorem StV.go (h : StV w0 base g rb bx mb n c id wd B E Ov X O p w) (hb : Below w.heap.size w w') : StV w0 base g rb bx mb n c id wd B E Ov X O p w' := by
  refine ⟨h.below.trans (hb.mono h.below.size), Nat.le_trans h.bs hb.size, pBlk_st _ _ _ _ _ h.run hb, h.row.kept (grown_below hb) ?_, h.qu.below hb, pBlk_st _ _ _ _ _ h.box hb, h.map.same (hb.block _ h.map.lt), fun k cs t e => ⟨pBlk_st _ _ _ _ _ (h.ext k cs t e).1 hb, (h.ext k cs t e).2⟩⟩
  cases hO : Ov.ownBlock with
  | none => exact .inl rfl
  | some k => exact .inr (by simp)
theorem StV.ob (h : StV w0 base g rb bx mb n c id wd B E Ov X O p w) : ∀ b, Ov.ownBlock = some b → b < w.heap.size := fun b hb => (h.row.lt b hb).2
theorem StV.ob2 (_ : Geo w0 base g rb bx mb) (h : StV w0 base g rb bx mb n c id wd B E Ov X O p w) {x : Nat} (hx : x < base) : Ov.ownBlock = none ∨ Ov.ownBlock ≠ some x := by
  cases hO : Ov.ownBlock with
  | none => exact .inl rfl
  | some k =>
    refine .inr fun e => ?_
    injection e with e
    have := (h.row.lt k hO).1
    omega
theorem StV.at {p' : Nat} (G : Geo w0 base g rb bx mb) (h : StV w0 base g rb bx mb n c id wd B E Ov X O p w) (hr : pBlk rb #[.pointer (some ⟨g, 0, none⟩), .int .i64 wd, .slice B n c, .int .i64 (p' : Nat), Ov] 141 w') (hm : Mut rb w w') : StV w0 base g rb bx mb n c id wd B E Ov X O p' w' :=
  ⟨h.below.trans (hm.below h.below.size G.r0), Nat.le_trans h.bs hm.size, hr, h.row.kept (grown_mut hm) (h.ob2 G G.r1), h.qu.mut hm G.gr, h.box.mut hm (Ne.symm G.rx), h.map.same (hm.block _ h.map.lt (Ne.symm G.rm)), fun k cs t e => ⟨(h.ext k cs t e).1.mut hm (h.ext k cs t e).2.2.1, (h.ext k cs t e).2⟩⟩
theorem StV.bits {X' : Nat} (G : Geo w0 base g rb bx mb) (h : StV w0 base g rb bx mb n c id wd B E Ov X O p w) (hq : QuF (fun b => Ov.ownBlock = some b) g id X' w') (hm : Mut g w w') : StV w0 base g rb bx mb n c id wd B E Ov X' O p w' :=
  ⟨h.below.trans (hm.below h.below.size G.g0), Nat.le_trans h.bs hm.size, h.run.mut hm (Ne.symm G.gr), h.row.kept (grown_mut hm) (h.ob2 G G.g1), hq, h.box.mut hm (Ne.symm G.gb), h.map.same (hm.block _ h.map.lt (Ne.symm G.gm)), fun k cs t e => ⟨(h.ext k cs t e).1.mut hm (h.ext k cs t e).2.1, (h.ext k cs t e).2⟩⟩
/-- A block of nobody's is written. -/
theorem StV.oth {d : Nat} (G : Geo w0 base g rb bx mb) (h : StV w0 base g rb bx mb n c id wd B E Ov X O p w) (hd : base ≤ d) (hO : Ov.ownBlock ≠ some d) (hE : ∀ k cs t, E k cs t → k ≠ d) (hm : Mut d w w') : StV w0 base g rb bx mb n c id wd B E Ov X O p w' := by
  have hg := G.g1
  have hr := G.r1
  have hb := G.b1
  have hmm := G.m1
  refine ⟨h.below.trans (hm.below h.below.size (Nat.le_trans G.g0 (by omega))), Nat.le_trans h.bs hm.size, h.run.mut hm (by omega), h.row.kept (grown_mut hm) (.inr hO), h.qu.mut hm (by omega), h.box.mut hm (by omega), h.map.same (hm.block _ h.map.lt (by omega)), fun k cs t e => ⟨(h.ext k cs t e).1.mut hm (hE k cs t e), (h.ext k cs t e).2⟩⟩
theorem StV.more {E' : Nat → Array Value → TypeId → Prop} (h : StV w0 base g rb bx mb n c id wd B E Ov X O p w) (hE : ∀ k cs t, E' k cs t → pBlk k cs t w ∧ k ≠ g ∧ k ≠ rb ∧ Ov.ownBlock ≠ some k) : StV w0 base g rb bx mb n c id wd B E' Ov X O p w :=
  ⟨h.below, h.bs, h.run, h.row, h.qu, h.box, h.map, hE⟩
end
end Go.Proofs.YtobokaafmcfeaaaGreatDoor
