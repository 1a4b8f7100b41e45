/- A scope with three labels: to one the run jumps forward, to two it jumps back. Conditions: none. -/
import Derived.Test.YtncfbleeidjflaaGreatDoorTx04
import Derived.ScopeJumps
namespace Go.Cal
section
variable {P : Program} {a : Act} {w : World} {Q : Exit → Act → World → Prop}
/-- From code on: it ends as Q says, whatever is asked at a goto. -/
def Goes (P : Program) (Q : Exit → Act → World → Prop) (r : Code) (G : Nat → Act → World → Prop) (a : Act) (w : World) : Prop :=
  ∀ Q' : Exit → Act → World → Prop, (∀ a' w', Q .ret a' w' → Q' .ret a' w') → (∀ l a' w', G l a' w' → Q' (.goto l) a' w') → r.wp P Q' a w
theorem Goes.skip {r : Code} {G : Nat → Act → World → Prop} (h : Goes P Q r G a w) : Goes P Q (Code.skip.seq r) G a w := fun Q' h1 h2 => wp_seq (wp_skip (h Q' h1 h2))
theorem wp_scope_three {c r0 r1 r2 : Code} (l0 l1 l2 : Nat) (hf0 : findLabel c l0 = some (Code.skip.seq r0)) (hf1 : findLabel c l1 = some (Code.skip.seq r1)) (hf2 : findLabel c l2 = some (Code.skip.seq r2))
    (J0 J1 J2 : Act → World → Prop) (μ0 μ2 : Act → World → Nat)
    (p1 : ∀ a w, J1 a w → Goes P Q r1 (fun _ _ _ => False) a w)
    (p2 : (∀ a w, J1 a w → Goes P Q r1 (fun _ _ _ => False) a w) → ∀ a w, J2 a w → Goes P Q r2 (fun l a' w' => l = l2 ∧ J2 a' w' ∧ μ2 a' w' < μ2 a w) a w)
    (p0 : (∀ a w, J1 a w → Goes P Q r1 (fun _ _ _ => False) a w) → (∀ a w, J2 a w → Goes P Q r2 (fun l a' w' => l = l2 ∧ J2 a' w' ∧ μ2 a' w' < μ2 a w) a w) → ∀ a w, J0 a w → Goes P Q r0 (fun l a' w' => (l = l0 ∧ J0 a' w' ∧ μ0 a' w' < μ0 a w) ∨ (l = l1 ∧ J1 a' w') ∨ (l = l2 ∧ J2 a' w')) a w)
    (first : (∀ a w, J0 a w → Goes P Q r0 (fun l a' w' => (l = l0 ∧ J0 a' w' ∧ μ0 a' w' < μ0 a w) ∨ (l = l1 ∧ J1 a' w') ∨ (l = l2 ∧ J2 a' w')) a w) → Goes P Q c (fun l a' w' => (l = l0 ∧ J0 a' w') ∨ (l = l1 ∧ J1 a' w') ∨ (l = l2 ∧ J2 a' w')) a w) : (Code.scope c).wp P Q a w := by
  have q2 := p2 p1
  have q0 := p0 p1 q2
  intro b k cs
  have go : ∀ {l r}, findLabel c l = some r → gotoIn l (.inScope c :: k) = some (.code r :: .inScope c :: k) := fun h => by simp [gotoIn, h]
  let Ends := fun (x : Act) (v : World) (r : Code) => ∃ e a' w', Q e a' w' ∧ Arrives P (lone (b.at x (.code r :: .inScope c :: k)) cs v) b k cs e a' w'
  -- a run of r that ends by a return, or by a goto that ends
  have close : ∀ (r : Code) (x : Act) (v : World) (G : Nat → Act → World → Prop), Goes P Q r G x v →
      (∀ l a' w', G l a' w' → ∃ r', findLabel c l = some r' ∧ Ends a' w' r') → Ends x v r := by
    intro r x v G hg hG
    obtain ⟨e, a₁, w₁, hq, harr⟩ := hg (fun e a' w' => match e with | .ret => Q .ret a' w' | .goto l => G l a' w' | _ => False) (fun _ _ h => h) (fun _ _ _ h => h) b (.inScope c :: k) cs
    cases e with
    | ret => exact ⟨_, a₁, w₁, hq, harr⟩
    | goto l =>
      obtain ⟨r', hf, e₂, a₂, w₂, hq₂, harr₂⟩ := hG l a₁ w₁ hq
      exact ⟨e₂, a₂, w₂, hq₂, .of_steps (harr _ (go hf)) harr₂⟩
    | normal => exact absurd hq id
    | exit id => exact absurd hq _root_.id
    | panic ch => exact absurd hq id
    | outgrown => exact absurd hq id
  have k1 : ∀ x v, J1 x v → Ends x v (Code.skip.seq r1) := fun x v h => close (Code.skip.seq r1) x v _ (p1 x v h).skip (fun _ _ _ f => f.elim)
  have k2 : ∀ n x v, μ2 x v = n → J2 x v → Ends x v (Code.skip.seq r2) := by
    intro n
    induction n using Nat.strongRecOn with
    | _ n ih =>
      intro x v hn hJ
      refine close (Code.skip.seq r2) x v _ (q2 x v hJ).skip ?_
      rintro l a' w' ⟨rfl, hj, hlt⟩
      exact ⟨Code.skip.seq r2, hf2, ih _ (by omega) a' w' rfl hj⟩
  have k0 : ∀ n x v, μ0 x v = n → J0 x v → Ends x v (Code.skip.seq r0) := by
    intro n
    induction n using Nat.strongRecOn with
    | _ n ih =>
      intro x v hn hJ
      refine close (Code.skip.seq r0) x v _ (q0 x v hJ).skip ?_
      rintro l a' w' (⟨rfl, hj, hlt⟩ | ⟨rfl, hj⟩ | ⟨rfl, hj⟩)
      · exact ⟨Code.skip.seq r0, hf0, ih _ (by omega) a' w' rfl hj⟩
      · exact ⟨Code.skip.seq r1, hf1, k1 a' w' hj⟩
      · exact ⟨Code.skip.seq r2, hf2, k2 _ a' w' rfl hj⟩
  obtain ⟨e, a₁, w₁, hq, harr⟩ := close c a w _ (first q0) (by
    rintro l a' w' (⟨rfl, hj⟩ | ⟨rfl, hj⟩ | ⟨rfl, hj⟩)
    · exact ⟨Code.skip.seq r0, hf0, k0 _ a' w' rfl hj⟩
    · exact ⟨Code.skip.seq r1, hf1, k1 a' w' hj⟩
    · exact ⟨Code.skip.seq r2, hf2, k2 _ a' w' rfl hj⟩)
  exact ⟨e, a₁, w₁, hq, .of_steps (.one step_scope) harr⟩
end
theorem results_tmp5 {fn : Func} {t u v x y : Tmp} (h : fn.results = #[.tmp t, .tmp u, .tmp v, .tmp x, .tmp y]) (tmps : Array Value) (P : Program) (w : World) :
    (results fn tmps).run P w = .ok (.tuple #[tmps.getD t undef, tmps.getD u undef, tmps.getD v undef, tmps.getD x undef, tmps.getD y undef]) w := by
  simp [results, h]
/-- What some slots of a frame hold. -/
def Has (a : Act) : List (Nat × Value) → Prop
  | [] => True
  | kv :: l => a.tmps.getD kv.1 undef = kv.2 ∧ Has a l
def Fr (n : Nat) (a : Act) (l : List (Nat × Value)) : Prop := a.defers = [] ∧ a.tmps.size = n ∧ Has a l
theorem Has.get {a : Act} {k : Nat} {v : Value} : ∀ {l : List (Nat × Value)}, Has a l → l.lookup k = some v → a.tmps.getD k undef = v
  | [], _, h => by simp at h
  | (k', v') :: l, hh, h => by
    rw [List.lookup_cons] at h
    split at h
    · rename_i e
      have e2 : k = k' := by simpa using e
      subst e2
      rw [hh.1]
      exact Option.some.inj h
    · exact hh.2.get h
/-- A frame, written out: the slots that are not told hold something. -/
theorem Fr.lit {n : Nat} {a : Act} {l : List (Nat × Value)} (h : Fr n a l) : ∃ u : Nat → Value, a = { tmps := ((List.range n).map fun k => (l.lookup k).getD (u k)).toArray, defers := [] } := by
  obtain ⟨h1, h2, h3⟩ := h
  refine ⟨fun k => a.tmps.getD k undef, ?_⟩
  obtain ⟨tmps, defers⟩ := a
  simp only at h1 h2
  subst h1
  congr 1
  apply Array.ext
  · simpa using h2
  · intro i hi1 hi2
    have e1 : tmps.getD i undef = tmps[i] := by simp [Array.getD, hi1]
    have e2 : ((List.range n).map fun k => (l.lookup k).getD (tmps.getD k undef)).toArray[i] = (l.lookup i).getD (tmps.getD i undef) := by simp
    show tmps[i] = ((List.range n).map fun k => (l.lookup k).getD (tmps.getD k undef)).toArray[i]
    rw [e2]
    cases hl : l.lookup i with
    | none => rw [Option.getD_none, e1]
    | some v =>
      rw [Option.getD_some, ← e1]
      exact Has.get (a := ⟨tmps, []⟩) h3 hl
end Go.Cal
