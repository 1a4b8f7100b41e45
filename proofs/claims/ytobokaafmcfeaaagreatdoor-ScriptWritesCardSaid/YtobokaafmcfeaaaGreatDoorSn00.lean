/- What the statement wants beyond its base. Conditions: none. -/
import Derived.Test.YtobokaafmcfeaaaGreatDoorSk00
import Derived.Test.YtobokaafmcfeaaaGreatDoorSk01
import Derived.Test.YtobokaafmcfeaaaGreatDoorSk02
import Derived.Test.YtobokaafmcfeaaaGreatDoorSk03
import Derived.Test.YtobokaafmcfeaaaGreatDoorSk04
import Derived.Test.YtobokaafmcfeaaaGreatDoorSk05
import Derived.Test.YtobokaafmcfeaaaGreatDoorSk06
import Derived.Test.YtobokaafmcfeaaaGreatDoorSk07
import Derived.Test.YtobokaafmcfeaaaGreatDoorSk08
import Derived.Test.YtobokaafmcfeaaaGreatDoorSk09
import Derived.Test.YtobokaafmcfeaaaGreatDoorSk10
import Derived.Test.YtobokaafmcfeaaaGreatDoorSk11
import Derived.Test.YtobokaafmcfeaaaGreatDoorSk12
import Derived.Test.YtobokaafmcfeaaaGreatDoorSk13
import Derived.Test.YtobokaafmcfeaaaGreatDoorSk14
import Derived.Test.YtobokaafmcfeaaaGreatDoorSk15
import Derived.Test.YtobokaafmcfeaaaGreatDoorSk16
import Derived.Test.YtobokaafmcfeaaaGreatDoorSk17
import Derived.Test.YtobokaafmcfeaaaGreatDoorSk18
import Derived.Test.YtobokaafmcfeaaaGreatDoorSk19
import Derived.Test.YtobokaafmcfeaaaGreatDoorSk20
import Derived.Test.YtobokaafmcfeaaaGreatDoorSk21
import Derived.Test.YtobokaafmcfeaaaGreatDoorSk22
import Derived.Test.YtobokaafmcfeaaaGreatDoorSk23
import Derived.Test.YtobokaafmcfeaaaGreatDoorSk24
import Derived.Test.YtobokaafmcfeaaaGreatDoorSk25
import Derived.Test.YtobokaafmcfeaaaGreatDoorSk26
import Derived.Test.YtobokaafmcfeaaaGreatDoorSk27
import Derived.Test.YtobokaafmcfeaaaGreatDoorSk28
import Derived.Test.YtobokaafmcfeaaaGreatDoorSk29
import Derived.Test.YtobokaafmcfeaaaGreatDoorSk30
import Derived.Test.YtobokaafmcfeaaaGreatDoorSk31
import Derived.Test.YtobokaafmcfeaaaGreatDoorSk32
import Derived.Test.YtobokaafmcfeaaaGreatDoorSk33
import Derived.Test.YtobokaafmcfeaaaGreatDoorSk34
import Derived.Test.YtobokaafmcfeaaaGreatDoorSk35
import Derived.Test.YtobokaafmcfeaaaGreatDoorSk36
import Derived.Test.YtobokaafmcfeaaaGreatDoorSk37
import Derived.Test.YtobokaafmcfeaaaGreatDoorSk38
import Derived.Test.YtobokaafmcfeaaaGreatDoorSk41
import Derived.Test.YtobokaafmcfeaaaGreatDoorSk42
import Derived.Shelf.Strings.SlTrimAscii
import Derived.Lib.ParseIntBCases
import Derived.Lib.SmallJoins
import Derived.Test.YtobokaafmcfeaaaGreatDoorCards
import Derived.Test.YtobokaafmcfeaaaGreatDoorTie
import Derived.ProofKit
import Derived.LaidMore
import Derived.OpenShut
import Derived.Lay
import Derived.SevenTiedAt
import Derived.Stop.Joined
import Derived.Lib.LaidTab
import Derived.Lib.SlBytesRow
import Derived.Laws.IdiomStrings
import Derived.Lib.SlBytesConst
import Derived.Lib.AppendStr
import Derived.Lib.SlBuf
import Derived.ArgAppend
import Derived.Defers
import Derived.Recover
import Derived.Tactics2
import Derived.LaidHandle
import Derived.Maps.Keyed
import Derived.WideKeyElems2
import Derived.LaidOnce
import Derived.Maps.OwnSet
import Derived.Deep.RegionHeld3
namespace Go.Proofs.YtobokaafmcfeaaaGreatDoor
open Go.RowKit Go.Cal
end Go.Proofs.YtobokaafmcfeaaaGreatDoor
namespace Go.Proofs.YtobokaafmcfeaaaGreatDoor
open Go.RowKit Go.Cal
section
variable {B w : World} {l : List (Value × Nat × Nat)}
variable {v1 v2 : Value} {k1 k2 X Y : Nat}
end
section
variable {B w : World} {l : List (Value × Nat × Nat)} {v1 v2 : Value} {k1 k2 X Y : Nat}
end
end Go.Proofs.YtobokaafmcfeaaaGreatDoor
namespace Go.Proofs.YtobokaafmcfeaaaGreatDoor
open Go.ChangeShapes Go.WideShapes Go.ChangeAt Go.RowKit Go.Cal
theorem laid_out : laidOutB Tryz.prog = true := by kernel_rfl
end Go.Proofs.YtobokaafmcfeaaaGreatDoor
namespace Go.Proofs.YtobokaafmcfeaaaGreatDoor
open Go.RowKit Go.Cal
section
variable {B w w' : World} {l l' : List (World → Prop)} {P : World → Prop}
end
section
variable {w : World} {v1 v2 : Value} {k1 k2 X Y : Nat}
end
end Go.Proofs.YtobokaafmcfeaaaGreatDoor
namespace Go.Proofs.YtobokaafmcfeaaaGreatDoor
open Go.RowKit Go.Cal
end Go.Proofs.YtobokaafmcfeaaaGreatDoor
namespace Go.Proofs.YtobokaafmcfeaaaGreatDoor
open Go.RowKit Go.Cal
end Go.Proofs.YtobokaafmcfeaaaGreatDoor
namespace Go.Proofs.YtobokaafmcfeaaaGreatDoor
open Go.RowKit Go.Cal
theorem slice_head (A : Option Addr) (n c : Nat) (k : Int) (w : World) (h0 : 0 ≤ k) (h1 : k ≤ c) : (Instr.slice 42 (.slice A n c) none (some (.int .i64 k)) none).run Tryz.prog w = .ok (.slice A k.toNat c) w := by
  have hu : Tryz.prog.underlying 42 = some (.slice (Tryz.prog.elem 42)) := by kernel_rfl
  have ha : ∀ a : Addr, a.add 0 = a := fun a => by cases a; unfold Addr.add; split <;> simp_all
  rw [run_slice_h _ _ _ _ _ hu .i64 k h0 h1]
  obtain ⟨i, hi, hz0, hz1, hz2⟩ := info_parts sinfo_byte
  have he : Tryz.prog.elem 42 = 5 := by kernel_rfl
  have hs : (sizeOf (Tryz.prog.elem 42)).run Tryz.prog w = .ok 1 w := by
    rw [he]; simp [sizeOf, typeInfo, hi, hz1]
  rw [hs]
  simp [Result.andThen, sliced, ha]
end Go.Proofs.YtobokaafmcfeaaaGreatDoor
namespace Go.Proofs.YtobokaafmcfeaaaGreatDoor
open Go.RowKit Go.Cal
end Go.Proofs.YtobokaafmcfeaaaGreatDoor
namespace Go.Proofs.YtobokaafmcfeaaaGreatDoor
open Go.RowKit Go.Cal
end Go.Proofs.YtobokaafmcfeaaaGreatDoor
namespace Go.Proofs.YtobokaafmcfeaaaGreatDoor
open Go.RowKit Go.Cal
end Go.Proofs.YtobokaafmcfeaaaGreatDoor
namespace Go.Proofs.YtobokaafmcfeaaaGreatDoor
open Go.ChangeShapes Go.WideShapes Go.ChangeAt Go.RowKit Go.Cal
end Go.Proofs.YtobokaafmcfeaaaGreatDoor
namespace Go.Proofs.YtobokaafmcfeaaaGreatDoor
open Go.ChangeShapes Go.WideShapes Go.ChangeAt Go.RowKit Go.Cal Go.Maps
end Go.Proofs.YtobokaafmcfeaaaGreatDoor
namespace Go.Proofs.YtobokaafmcfeaaaGreatDoor
open Go.ChangeShapes Go.WideShapes Go.ChangeAt Go.RowKit Go.Cal
end Go.Proofs.YtobokaafmcfeaaaGreatDoor
namespace Go.Proofs.YtobokaafmcfeaaaGreatDoor
open Go.ChangeShapes Go.WideShapes Go.ChangeAt Go.RowKit Go.Cal
end Go.Proofs.YtobokaafmcfeaaaGreatDoor
namespace Go.Proofs.YtobokaafmcfeaaaGreatDoor
open Go.ChangeShapes Go.WideShapes Go.ChangeAt Go.RowKit Go.Cal
end Go.Proofs.YtobokaafmcfeaaaGreatDoor
namespace Go.Proofs.YtobokaafmcfeaaaGreatDoor
open Go.ChangeShapes Go.WideShapes Go.ChangeAt Go.RowKit Go.Cal
set_option maxRecDepth 100000 in
theorem argB_of {H : Type} {enc : TypeId × Value → H} {W : World} {v : Value} {d : DataW H} {p : List MemPlace} {sp : Nat → Bool} {hd : Bool} {base : Nat}
    (hv : Value.okWide Tryz.prog W .any base 42 v) (h : DataW.Trod enc Tryz.prog W 0 sp hd 42 v d p) (hlt : ∀ x ∈ p, x.block < W.heap.size) : ArgB W v := by
  obtain ⟨a0, len, cap, rfl⟩ := okWide_slice Tryz.underlying42 hv
  obtain ⟨fuel, h⟩ := h
  rcases open_ints Tryz.underlying42 Tryz.underlying5 (by kernel_rfl) h with ⟨h1, _⟩ | ⟨a, len', cap', zs, h1, h2, h3, h4, h5, h6, h7, h8⟩
  · simp [Value.cells] at h1
    obtain ⟨rfl, rfl, rfl⟩ := h1
    exact ⟨none, 0, [], rfl, ⟨.inl rfl, fun _ _ _ i hi => by simp at hi⟩, fun _ => rfl, Nat.le_refl _, by unfold maxLen; omega⟩
  · simp [Value.cells] at h1
    obtain ⟨rfl, rfl, rfl⟩ := h1
    have hlz : len ≤ zs.length := by
      rw [h5]; split <;> omega
    have hb : ∀ n ∈ zs, 0 ≤ n ∧ n ≤ 255 := fun n hn => bounds_u8 (h8 n hn)
    have hl : ((zs.take len).map fun n => UInt8.ofNat n.toNat).length = len := by rw [List.length_map, List.length_take]; omega
    refine ⟨some a, cap, (zs.take len).map fun n => UInt8.ofNat n.toNat, by rw [hl], ?_, (fun e => by cases e), by rw [hl]; exact h3, h4⟩
    by_cases h0 : len = 0
    · subst h0; exact ⟨.inl (by simp), fun _ _ _ i hi => by simp at hi⟩
    · obtain ⟨b, off, rfl, hc⟩ := ints_at h7 (by omega)
      have hin : MemPlace.cell b off ∈ p := by
        rw [(Prod.mk.inj h6).2]
        exact List.mem_map.2 ⟨0, List.mem_range.2 (by omega), rfl⟩
      refine ⟨.inr ⟨b, off, rfl, hlt _ hin⟩, fun b' off' e i hi => ?_⟩
      injection e with e
      injection e with e1 e2
      subst e1; subst e2
      rw [hl] at hi
      rw [hc i (by omega)]
      have hi2 : i < zs.length := by omega
      have hz := hb (zs.getD i 0) (by rw [List.getD_eq_getElem?_getD, List.getElem?_eq_getElem hi2]; exact List.getElem_mem _)
      have e3 : ((zs.take len).map fun n => UInt8.ofNat n.toNat).getD i 0 = UInt8.ofNat (zs.getD i 0).toNat := by
        simp [List.getD_eq_getElem?_getD, hi, hi2]
      rw [e3, UInt8.toNat_ofNat']
      congr 2
      omega
end Go.Proofs.YtobokaafmcfeaaaGreatDoor
namespace Go.Proofs.YtobokaafmcfeaaaGreatDoor
open Go.RowKit Go.Cal
section
variable {P : Program} {ops : Array Oper} {Q : Exit → Act → World → Prop} {md : Region.Mode} {S : World → Prop}
end
end Go.Proofs.YtobokaafmcfeaaaGreatDoor
namespace Go.Proofs.YtobokaafmcfeaaaGreatDoor
open Go.RowKit Go.Cal
/-- A step that is cut is no step; one that goes on is the same. -/
theorem step_cut {id : Int} {X : Nat} {O : List Nat} {l : List UInt8} (h : (stepP id X O l).err = 0) {t : Nat} (h0 : 0 < t) :
    stepP id X O (l.take t) = if (stepP id X O l).used ≤ t then stepP id X O l else ⟨2, 0, X, O⟩ := by
  obtain ⟨t, rfl⟩ : ∃ s, t = s + 1 := ⟨t - 1, by omega⟩
  cases l with
  | nil => simp [stepP] at h
  | cons c r =>
    rw [List.take_succ_cons]
    revert h
    rw [stepP, stepP]
    split
    · intro _; simp
    split
    · split
      · intro h; simp at h
      · rename_i h2
        intro _
        simp only
        by_cases ht : 1 + (fW id).toNat / 8 + (fW id).toNat / 8 ≤ t + 1
        · rw [if_pos ht, if_neg (by simp; omega), List.take_take, List.drop_take, List.take_take, Nat.min_eq_left (by omega), Nat.min_eq_left (by omega)]
        · rw [if_neg ht, if_pos (by simp; omega)]
    split
    · intro _; simp
    split
    · intro _; simp
    split
    · cases r with
      | nil => intro h; simp [ldS] at h
      | cons m s =>
        rw [ldS]
        split
        · intro h; simp at h
        rename_i hm
        split
        · rename_i hv
          intro _
          simp only
          cases t with
          | zero => rw [if_neg (by omega)]; rfl
          | succ t =>
            rw [List.take_succ_cons]
            by_cases ht : 2 + m.toNat ≤ t + 1 + 1
            · rw [if_pos ht, ldS, if_neg (by simp; omega), List.take_take, Nat.min_eq_left (by omega), if_pos hv]
            · rw [if_neg ht, ldS, if_pos (by simp; omega)]
        · intro h; rename_i hq; exact absurd h hq
    · intro h; simp at h
theorem run_used (id : Int) : ∀ (n X : Nat) (O : List Nat) (l : List UInt8), (runP id n X O l).used ≤ l.length ∧ ((runP id n X O l).err = 0 → (runP id n X O l).used = l.length)
  | n, X, O, [] => by rw [runP_nil]; simp
  | 0, _, _, _ :: _ => by simp [runP]
  | n + 1, X, O, c :: r => by
    by_cases h1 : (stepP id X O (c :: r)).err = 0
    · obtain ⟨u1, u2⟩ := step_used h1
      obtain ⟨e1, e2⟩ := run_used id n (stepP id X O (c :: r)).X (stepP id X O (c :: r)).O ((c :: r).drop (stepP id X O (c :: r)).used)
      rw [List.length_drop] at e1 e2
      rw [runP, if_pos h1]
      simp only
      refine ⟨by omega, fun h => ?_⟩
      have := e2 h
      omega
    · rw [runP_no h1]
      exact ⟨Nat.zero_le _, fun h => absurd h h1⟩
theorem run_outs (id : Int) : ∀ (n X : Nat) (O : List Nat) (l : List UInt8), ∃ m, (runP id n X O l).O = O ++ m ∧ m.length ≤ n
  | n, X, O, [] => ⟨[], by rw [runP_nil]; simp, by simp⟩
  | 0, _, _, _ :: _ => ⟨[], by simp [runP], by simp⟩
  | n + 1, X, O, c :: r => by
    by_cases h1 : (stepP id X O (c :: r)).err = 0
    · obtain ⟨m, e, l1⟩ := step_outs id X O (c :: r)
      obtain ⟨m2, e2, l2⟩ := run_outs id n (stepP id X O (c :: r)).X (stepP id X O (c :: r)).O ((c :: r).drop (stepP id X O (c :: r)).used)
      rw [runP, if_pos h1]
      exact ⟨m ++ m2, by simp only; rw [e2, e, List.append_assoc], by simp; omega⟩
    · rw [runP_no h1]
      exact ⟨[], by simp, by simp⟩
/-- A beginning of a script. -/
theorem run_cut (id : Int) : ∀ (n X : Nat) (O : List Nat) (l : List UInt8) (t : Nat), (runP id n X O l).err = 0 → t ≤ l.length →
    ((runP id n X O (l.take t)).err = 0 ∨ (runP id n X O (l.take t)).err = 2 ∧ (runP id n X O (l.take t)).used < t) ∧ ∃ m, (runP id n X O l).O = (runP id n X O (l.take t)).O ++ m
  | n, X, O, l, 0, _, _ => by
    rw [List.take_zero, runP_nil]
    obtain ⟨m, e, -⟩ := run_outs id n X O l
    exact ⟨.inl rfl, m, e⟩
  | n, X, O, [], t + 1, _, h => by simp at h
  | 0, _, _, _ :: _, _ + 1, h, _ => by simp [runP] at h
  | n + 1, X, O, c :: r, t + 1, h, ht => by
    by_cases h1 : (stepP id X O (c :: r)).err = 0
    · obtain ⟨u1, u2⟩ := step_used h1
      have hc := step_cut h1 (t := t + 1) (by omega)
      have h2 := h
      rw [runP, if_pos h1] at h2
      obtain ⟨m0, e0, -⟩ := run_outs id (n + 1) X O (c :: r)
      rw [List.take_succ_cons] at hc ⊢
      by_cases hu : (stepP id X O (c :: r)).used ≤ t + 1
      · rw [if_pos hu] at hc
        have hd : (c :: r.take t).drop (stepP id X O (c :: r)).used = ((c :: r).drop (stepP id X O (c :: r)).used).take (t + 1 - (stepP id X O (c :: r)).used) := by
          rw [← List.take_succ_cons, List.drop_take]
        have e := run_cut id n (stepP id X O (c :: r)).X (stepP id X O (c :: r)).O ((c :: r).drop (stepP id X O (c :: r)).used) (t + 1 - (stepP id X O (c :: r)).used) h2 (by simp only [List.length_drop]; omega)
        rw [runP, hc, if_pos h1, hd, runP, if_pos h1]
        obtain ⟨e1, m, e2⟩ := e
        refine ⟨?_, m, e2⟩
        simp only
        rcases e1 with e1 | ⟨e1, e3⟩
        · exact .inl e1
        · exact .inr ⟨e1, by omega⟩
      · rw [if_neg hu] at hc
        rw [runP_no (n := n) (by rw [hc]; exact (by decide : (2 : Nat) ≠ 0)), hc]
        exact ⟨.inr ⟨rfl, by simp⟩, m0, by rw [e0]⟩
    · rw [runP_no h1] at h
      exact absurd h h1
end Go.Proofs.YtobokaafmcfeaaaGreatDoor
namespace Go.Proofs.YtobokaafmcfeaaaGreatDoor
open Go.RowKit Go.Cal
section
variable {w0 w w' : World} {base g rb bx mb n c X p : Nat} {id wd : Int} {B : Option Addr} {E : Nat → Array Value → TypeId → Prop} {Ov : Value} {O : List Nat}
end
end Go.Proofs.YtobokaafmcfeaaaGreatDoor
