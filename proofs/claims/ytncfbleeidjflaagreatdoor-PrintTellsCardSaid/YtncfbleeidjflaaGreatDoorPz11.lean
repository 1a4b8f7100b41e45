/- What a package-level table of integers, structs and arrays holds, cell for cell, from the datum that it reads as. Conditions: none. -/
import Derived.Test.YtncfbleeidjflaaGreatDoorPz07
import Derived.ProofKit
import Derived.OpenShut
import Derived.Lib.LaidTab
namespace Go.Cal
open Go.RowKit

/-- The cells of a datum of integers, aggregates of these, to a depth. -/
def flat {H : Type} : Nat → DataW H → List Value
  | 0, _ => []
  | _ + 1, .lit (.int k n) => [.int k n]
  | n + 1, .agg l => l.flatMap (flat n)
  | _, _ => []

/-- The fields follow one another from this offset on. -/
def contig (P : Program) : Nat → List Field → Option Nat
  | o, [] => some o
  | o, f :: fs => if f.offset = o then contig P (o + P.cellsOf f.type) fs else none

def plainT (P : Program) : Nat → TypeId → Bool
  | 0, _ => false
  | n + 1, t => match P.underlying t with
    | some (.int _) => true
    | some (.struct fs) => contig P 0 fs.toList == some (P.cellsOf t) && fs.toList.all fun f => plainT P n f.type
    | some (.array m e) => m * P.cellsOf e == P.cellsOf t && plainT P n e
    | _ => false

section
variable {H : Type} {enc : TypeId × Value → H} {P : Program} {w : World} {base : Nat} {sp : Nat → Bool} {held : Bool}

theorem flat_fields {n fuel : Nat} (ih : ∀ t cs (d : DataW H) p, plainT P n t = true → DataW.trod enc P w base sp held fuel t cs = some (d, p) → cs = flat n d) :
    ∀ (fs : List Field) (o : Nat) (cs : List Value) (xs : List (DataW H × List MemPlace)) (e : Nat), (fs.all fun f => plainT P n f.type) = true → contig P o fs = some e → cs.length = e →
      (fs.mapM fun f => DataW.trod enc P w base sp held fuel f.type ((cs.drop f.offset).take (P.cellsOf f.type))) = some xs → cs.drop o = (xs.map (·.1)).flatMap (flat n)
  | [], o, cs, xs, e, _, hc, hl, hm => by
    simp only [List.mapM_nil, Option.pure_def, Option.some.injEq] at hm
    subst hm
    simp only [contig, Option.some.injEq] at hc
    simp [hc, hl]
  | f :: fs, o, cs, xs, e, ha, hc, hl, hm => by
    simp only [List.all_cons, Bool.and_eq_true] at ha
    simp only [contig] at hc
    split at hc
    · rename_i hfo
      subst hfo
      simp only [List.mapM_cons, Option.bind_eq_bind, Option.bind_eq_some_iff, Option.pure_def, Option.some.injEq] at hm
      obtain ⟨⟨d, p⟩, h1, ys, h2, rfl⟩ := hm
      have e1 := ih _ _ _ _ ha.1 h1
      have e2 := flat_fields ih fs _ cs ys e ha.2 hc hl h2
      simp only [List.map_cons, List.flatMap_cons]
      rw [← e1, ← e2, ← List.drop_drop, List.take_append_drop]
    · cases hc

theorem flat_array {n fuel : Nat} {e : TypeId} (ih : ∀ t cs (d : DataW H) p, plainT P n t = true → DataW.trod enc P w base sp held fuel t cs = some (d, p) → cs = flat n d) (he : plainT P n e = true) :
    ∀ (l : List Nat) (o : Nat) (cs : List Value) (xs : List (DataW H × List MemPlace)), (∀ i, (h : i < l.length) → l[i] = o + i) → cs.length = (o + l.length) * P.cellsOf e →
      (l.mapM fun i => DataW.trod enc P w base sp held fuel e ((cs.drop (i * P.cellsOf e)).take (P.cellsOf e))) = some xs → cs.drop (o * P.cellsOf e) = (xs.map (·.1)).flatMap (flat n)
  | [], o, cs, xs, _, hl, hm => by
    simp only [List.mapM_nil, Option.pure_def, Option.some.injEq] at hm
    subst hm
    simp at hl
    simp [hl]
  | i :: l, o, cs, xs, hi, hl, hm => by
    simp only [List.mapM_cons, Option.bind_eq_bind, Option.bind_eq_some_iff, Option.pure_def, Option.some.injEq] at hm
    obtain ⟨⟨d, p⟩, h1, ys, h2, rfl⟩ := hm
    have h0 : i = o := hi 0 (by simp)
    subst h0
    have e1 := ih _ _ _ _ he h1
    have e2 := flat_array ih he l (i + 1) cs ys (fun j hj => by have := hi (j + 1) (by simp; omega); simp at this; omega) (by rw [hl]; simp; rw [show i + (l.length + 1) = i + 1 + l.length by omega]) h2
    simp only [List.map_cons, List.flatMap_cons]
    rw [← e1, ← e2, Nat.succ_mul, ← List.drop_drop, List.take_append_drop]

theorem cells_flat : ∀ (n fuel : Nat) (t : TypeId) (cs : List Value) (d : DataW H) (p : List MemPlace), plainT P n t = true → DataW.trod enc P w base sp held fuel t cs = some (d, p) → cs = flat n d
  | 0, _, _, _, _, _, hp, _ => by simp [plainT] at hp
  | n + 1, 0, _, _, _, _, _, h => by simp [DataW.trod] at h
  | n + 1, fuel + 1, t, cs, d, p, hp, h => by
    have ih := fun t cs (d : DataW H) p => cells_flat n fuel t cs d p
    simp only [plainT] at hp
    split at hp
    · rename_i k hu
      obtain ⟨z, rfl, hx, _⟩ := DataW.trod_int hu h
      simp only [Prod.mk.injEq] at hx
      rw [hx.1]; rfl
    · rename_i fs hu
      simp only [Bool.and_eq_true, beq_iff_eq] at hp
      simp only [DataW.trod, hu] at h
      split at h
      · rename_i hl
        obtain ⟨xs, hm, hx⟩ := Option.map_eq_some_iff.1 h
        simp only [Prod.mk.injEq] at hx
        have := flat_fields ih fs.toList 0 cs xs _ hp.2 hp.1 hl hm
        rw [← hx.1]
        simpa [flat] using this
      · cases h
    · rename_i m e hu
      simp only [Bool.and_eq_true, beq_iff_eq] at hp
      simp only [DataW.trod, hu] at h
      split at h
      · rename_i hl
        obtain ⟨xs, hm, hx⟩ := Option.map_eq_some_iff.1 h
        simp only [Prod.mk.injEq] at hx
        have := flat_array ih hp.2 (List.range m) 0 cs xs (fun i hi => by simp) (by rw [hl, ← hp.1]; simp) hm
        rw [← hx.1]
        simpa [flat] using this
      · cases h
    · cases hp
end
end Go.Cal
