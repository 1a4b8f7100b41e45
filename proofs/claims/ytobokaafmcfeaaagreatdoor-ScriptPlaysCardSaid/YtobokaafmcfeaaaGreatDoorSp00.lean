/- What the statement wants beyond its base. Conditions: none. -/
import Derived.Test.YtobokaafmcfeaaaGreatDoorSk00
import Derived.Test.YtobokaafmcfeaaaGreatDoorSk01
import Derived.Test.YtobokaafmcfeaaaGreatDoorSk02
import Derived.Test.YtobokaafmcfeaaaGreatDoorSk03
import Derived.Test.YtobokaafmcfeaaaGreatDoorSk04
import Derived.Test.YtobokaafmcfeaaaGreatDoorSk05
import Derived.Test.YtobokaafmcfeaaaGreatDoorSk06
import Derived.Test.YtobokaafmcfeaaaGreatDoorSk07
import Derived.Test.YtobokaafmcfeaaaGreatDoorSk08
import Derived.Test.YtobokaafmcfeaaaGreatDoorSk09
import Derived.Test.YtobokaafmcfeaaaGreatDoorSk10
import Derived.Test.YtobokaafmcfeaaaGreatDoorSk11
import Derived.Test.YtobokaafmcfeaaaGreatDoorSk12
import Derived.Test.YtobokaafmcfeaaaGreatDoorSk13
import Derived.Test.YtobokaafmcfeaaaGreatDoorSk14
import Derived.Test.YtobokaafmcfeaaaGreatDoorSk15
import Derived.Test.YtobokaafmcfeaaaGreatDoorSk16
import Derived.Test.YtobokaafmcfeaaaGreatDoorSk17
import Derived.Test.YtobokaafmcfeaaaGreatDoorSk18
import Derived.Test.YtobokaafmcfeaaaGreatDoorSk19
import Derived.Test.YtobokaafmcfeaaaGreatDoorSk20
import Derived.Test.YtobokaafmcfeaaaGreatDoorSk21
import Derived.Test.YtobokaafmcfeaaaGreatDoorSk22
import Derived.Test.YtobokaafmcfeaaaGreatDoorSk23
import Derived.Test.YtobokaafmcfeaaaGreatDoorSk24
import Derived.Test.YtobokaafmcfeaaaGreatDoorSk25
import Derived.Test.YtobokaafmcfeaaaGreatDoorSk26
import Derived.Test.YtobokaafmcfeaaaGreatDoorSk27
import Derived.Test.YtobokaafmcfeaaaGreatDoorSk28
import Derived.Test.YtobokaafmcfeaaaGreatDoorSk29
import Derived.Test.YtobokaafmcfeaaaGreatDoorSk30
import Derived.Test.YtobokaafmcfeaaaGreatDoorSk31
import Derived.Test.YtobokaafmcfeaaaGreatDoorSk32
import Derived.Test.YtobokaafmcfeaaaGreatDoorSk33
import Derived.Test.YtobokaafmcfeaaaGreatDoorSk34
import Derived.Test.YtobokaafmcfeaaaGreatDoorSk35
import Derived.Test.YtobokaafmcfeaaaGreatDoorSk36
import Derived.Test.YtobokaafmcfeaaaGreatDoorSk37
import Derived.Test.YtobokaafmcfeaaaGreatDoorSk38
import Derived.Test.YtobokaafmcfeaaaGreatDoorSk41
import Derived.Test.YtobokaafmcfeaaaGreatDoorSk42
import Derived.Test.YtobokaafmcfeaaaGreatDoorSn00
import Derived.Test.YtobokaafmcfeaaaGreatDoorSn01
import Derived.Test.YtobokaafmcfeaaaGreatDoorSn02
import Derived.Test.YtobokaafmcfeaaaGreatDoorSo00
import Derived.Test.YtobokaafmcfeaaaGreatDoorSo01
import Derived.Maps.OwnSet
import Derived.Deep.RegionHeld3
import Derived.ArgAppend
import Derived.Deep.Slices
namespace Go.Proofs.YtobokaafmcfeaaaGreatDoor
open Go.RowKit Go.Cal
section
variable {P : Program} {ops : Array Oper} {Q : Exit → Act → World → Prop} {md : Region.Mode} {S : World → Prop}
end
end Go.Proofs.YtobokaafmcfeaaaGreatDoor
namespace Go.Proofs.YtobokaafmcfeaaaGreatDoor
open Go.RowKit Go.Cal
/-- What is done in time is done with more rounds too. -/
theorem run_rounds (id : Int) : ∀ (n d X : Nat) (O : List Nat) (l : List UInt8), (runP id n X O l).err = 0 → runP id (n + d) X O l = runP id n X O l
  | n, d, X, O, [], _ => by rw [runP_nil, runP_nil]
  | 0, _, _, _, _ :: _, h => by simp [runP] at h
  | n + 1, d, X, O, c :: r, h => by
    by_cases h1 : (stepP id X O (c :: r)).err = 0
    · have h2 := h
      rw [runP, if_pos h1] at h2
      have e := run_rounds id n d (stepP id X O (c :: r)).X (stepP id X O (c :: r)).O ((c :: r).drop (stepP id X O (c :: r)).used) h2
      rw [show n + 1 + d = n + d + 1 by omega, runP, if_pos h1, e, runP, if_pos h1]
    · rw [runP_no h1] at h
      exact absurd h h1
end Go.Proofs.YtobokaafmcfeaaaGreatDoor
namespace Go.Proofs.YtobokaafmcfeaaaGreatDoor
open Go.RowKit Go.Cal
section
variable {w0 w w' : World} {base g rb bx mb n c X p : Nat} {id wd : Int} {B : Option Addr} {E : Nat → Array Value → TypeId → Prop} {Ov : Value} {O : List Nat}
end
end Go.Proofs.YtobokaafmcfeaaaGreatDoor
namespace Go.Proofs.YtobokaafmcfeaaaGreatDoor
open Go.RowKit Go.Cal
section
variable {w0 w w' : World} {base g rb bx mb n c X p : Nat} {id wd : Int} {B : Option Addr} {E : Nat → Array Value → TypeId → Prop} {Ov : Value} {O : List Nat}
end
end Go.Proofs.YtobokaafmcfeaaaGreatDoor
namespace Go.Proofs.YtobokaafmcfeaaaGreatDoor
open Go.RowKit Go.Cal
section
variable {w w' : World} {g rb : Nat}
end
end Go.Proofs.YtobokaafmcfeaaaGreatDoor
namespace Go.Proofs.YtobokaafmcfeaaaGreatDoor
open Go.RowKit Go.Cal
end Go.Proofs.YtobokaafmcfeaaaGreatDoor
namespace Go.Proofs.YtobokaafmcfeaaaGreatDoor
open Go.RowKit Go.Cal
/-- Bytes, appended to a row of one's own: it lies where it lay, or in new memory. -/
theorem app_ownBs {w : World} {base n m c1 : Nat} {v : Value} {A : Option Addr} {xs ys : List UInt8} (ty : TypeId) (hown : w.ownsRow base 5 1 v n (lBv xs)) (hx : RdB w w.heap.size A ys) (hm : ys.length = m) (h0 : 0 < m) (hn : n + m ≤ 1000000) (hb : base ≤ w.heap.size) :
    ∃ A' n' c' w', (Builtin.append_ #[42, 42] ty #[v, .slice A m c1]).run Tryz.prog w = .ok (.slice A' n' c') w' ∧ w'.ownsRow base 5 1 (.slice A' n' c') (n + m) (lBv (xs ++ ys)) ∧ w.grownBy w' v.ownBlock ∧
      ((Value.slice A' n' c').ownBlock = v.ownBlock ∨ ∀ b, (Value.slice A' n' c').ownBlock = some b → w.heap.size ≤ b) := by
  obtain ⟨i0, hi, hi0, hi1, hi2⟩ := info_parts sinfo_byte
  rcases hx.place with he | ⟨sb, off, rfl, hsb⟩
  · subst he; simp at hm; omega
  have hnews : ∀ j u, (lBv ys)[j]? = some u → w.cell? ((⟨sb, off, none⟩ : Addr).add j) = some u := fun j u hj => by
    have hjl : j < ys.length := by
      have := (List.getElem?_eq_some_iff.1 hj).1
      simpa [lBv] using this
    have h1 : w.cell? ((⟨sb, off, none⟩ : Addr).add j) = some (.int .u8 (((ys.getD j 0).toNat : Nat) : Int)) := by
      rw [Addr.add_lit]
      exact hx.cells sb off rfl j hjl
    rw [h1, ← hj, lBv_get hjl]
  have hone : ∀ u ∈ lBv ys, u.oneCell' = true := fun u hu => by
    simp only [lBv, List.mem_map] at hu
    obtain ⟨x, -, rfl⟩ := hu
    rfl
  have hap : lBv xs ++ lBv ys = lBv (xs ++ ys) := by simp [lBv]
  have hll : (lBv ys).length = m := by simp [lBv, hm]
  have hsm : n + m ≤ maxLen := by unfold maxLen; omega
  obtain ⟨v', w', hrun, ho, hg, -⟩ := run_append_own (P := Tryz.prog) w base 42 ty 5 i0 (.int .u8 0) 1 1 sunder_bytes hi hi0 hi1 hi2 rfl (by decide) v n (lBv xs) hown ⟨sb, off, none⟩ m c1 (lBv ys) (by simp [lBv, hm]) hnews hone hsm (by omega) hb
  have hplace : v'.ownBlock = v.ownBlock ∨ ∀ b, v'.ownBlock = some b → w.heap.size ≤ b := by
    obtain ⟨hlen, hcase⟩ := hown
    rcases hcase with ⟨rfl, rfl⟩ | ⟨gg, cap, cur, rfl, hbg, hcur, hnc, hcm, hsz, htk⟩
    · obtain ⟨v2, w2, hrun2, ho2, -, -⟩ := run_append_own (P := Tryz.prog) w w.heap.size 42 ty 5 i0 (.int .u8 0) 1 1 sunder_bytes hi hi0 hi1 hi2 rfl (by decide) (.slice none 0 0) 0 [] (World.ownsRow_nil w _ _ _) ⟨sb, off, none⟩ m c1 (lBv ys) (by simp [lBv, hm]) hnews hone hsm (by omega) (Nat.le_refl _)
      rw [hrun] at hrun2
      injection hrun2 with e1 e2
      subst e1
      exact .inr fun b hb => (ho2.lt b hb).1
    · by_cases hroom : n + m ≤ cap
      · have hr := run_append_room (P := Tryz.prog) w 42 ty 5 i0 sunder_bytes hi gg n cap cur hcur ⟨sb, off, none⟩ m c1 (lBv ys) (by rw [hi1, hll, Nat.mul_one]) hnews hone hroom (by rw [hi1]; simp; omega)
        rw [hrun] at hr
        injection hr with e1 e2
        subst e1
        exact .inl rfl
      · obtain ⟨v2, w2, hrun2, ho2, -⟩ := run_append_arg_grows (P := Tryz.prog) w 42 ty 5 i0 (.int .u8 0) 1 1 sunder_bytes hi hi0 hi1 hi2 rfl (by decide) ⟨gg, 0, none⟩ n cap (lBv xs) hlen
          (fun j u hj => World.ownsRow.cells (h := ⟨hlen, .inr ⟨gg, cap, cur, rfl, hbg, hcur, hnc, hcm, hsz, htk⟩⟩) (g := gg) rfl j u hj) ⟨sb, off, none⟩ m c1 (lBv ys) (by simp [lBv, hm]) hnews (by omega) hsm (by omega)
        rw [hrun] at hrun2
        injection hrun2 with e1 e2
        subst e1
        exact .inr fun b hb => (ho2.lt b hb).1
  rw [hap] at ho
  have hsh := ho.2
  rcases hsh with ⟨rfl, -⟩ | ⟨gg, cap, cur, rfl, -⟩
  · exact ⟨_, _, _, w', hrun, ho, hg, hplace⟩
  · exact ⟨_, _, _, w', hrun, ho, hg, hplace⟩
theorem wpList_appBs {w : World} {ops : Array Oper} {rest : List Oper} {o : Oper} {a : Act} {Q : Exit → Act → World → Prop} {base n m c1 : Nat} {A : Option Addr} {v : Value} {xs ys : List UInt8} (hgd : o.guard = none) (s y : Operand)
    (hop : o.op = Op.call { callee := Callee.builtin Builtin.append, args := #[s, y], argTypes := #[42, 42] }) (hs : a.eval s = v) (hy : a.eval y = .slice A m c1)
    (hown : w.ownsRow base 5 1 v n (lBv xs)) (hx : RdB w w.heap.size A ys) (hm : ys.length = m) (h0 : 0 < m) (hn : n + m ≤ 1000000) (hb : base ≤ w.heap.size)
    (hK : ∀ A' n' c' w', w'.ownsRow base 5 1 (.slice A' n' c') (n + m) (lBv (xs ++ ys)) → w.grownBy w' v.ownBlock → ((Value.slice A' n' c').ownBlock = v.ownBlock ∨ ∀ b, (Value.slice A' n' c').ownBlock = some b → w.heap.size ≤ b) → wpList Tryz.prog ops Q rest (a.put o.dst (.slice A' n' c')) w') :
    wpList Tryz.prog ops Q (o :: rest) a w := by
  refine wpList_plain hgd fun K' hK' => ?_
  obtain ⟨A', n', c', w', hrun, r1, r2, r3⟩ := app_ownBs (c1 := c1) o.type hown hx hm h0 hn hb
  unfold Oper.wp
  simp [execOp, hop, resolve, invoke, builtin, hs, hy, hrun, Result.andThen]
  exact hK' _ _ (hK A' n' c' w' r1 r2 r3)
/-- A word, appended to a row of one's own, as a step of a list. -/
theorem wpList_appO {w : World} {ops : Array Oper} {rest : List Oper} {o : Oper} {a : Act} {Q : Exit → Act → World → Prop} {base n sb x c1 : Nat} {v : Value} {xs : List Nat} (hgd : o.guard = none) (s y : Operand)
    (hop : o.op = Op.call { callee := Callee.builtin Builtin.append, args := #[s, y], argTypes := #[32, 32] }) (hs : a.eval s = v) (hy : a.eval y = .slice (some ⟨sb, 0, none⟩) 1 c1)
    (hown : w.ownsRow base 22 1 v n (lU xs)) (hx : w.cell? ⟨sb, 0, none⟩ = some (.int .u64 (x : Nat))) (hn : n ≤ 1000000) (hb : base ≤ w.heap.size)
    (hK : ∀ A' n' c' w', w'.ownsRow base 22 1 (.slice A' n' c') (n + 1) (lU (xs ++ [x])) → w.grownBy w' v.ownBlock → ((Value.slice A' n' c').ownBlock = v.ownBlock ∨ ∀ b, (Value.slice A' n' c').ownBlock = some b → w.heap.size ≤ b) → wpList Tryz.prog ops Q rest (a.put o.dst (.slice A' n' c')) w') :
    wpList Tryz.prog ops Q (o :: rest) a w := by
  refine wpList_plain hgd fun K' hK' => ?_
  obtain ⟨A', n', c', w', hrun, r1, r2, r3⟩ := app_own (c1 := c1) o.type hown hx hn hb
  unfold Oper.wp
  simp [execOp, hop, resolve, invoke, builtin, hs, hy, hrun, Result.andThen]
  exact hK' _ _ (hK A' n' c' w' r1 r2 r3)
end Go.Proofs.YtobokaafmcfeaaaGreatDoor
namespace Go.Proofs.YtobokaafmcfeaaaGreatDoor
open Go.RowKit Go.Cal
/-- A quire, where a row beside it has grown. -/
theorem QuF.grown {F F' : Nat → Prop} {g X : Nat} {id : Int} {w w' : World} {row : Option Nat} (h : QuF F g id X w) (hg : w.grownBy w' row) (hne : row ≠ some g) (hr : ∀ b, row = some b → F b) (hF : ∀ b, F' b → F b ∨ w.heap.size ≤ b) : QuF F' g id X w' := by
  obtain ⟨A9, n9, c9, q1, q2, q3⟩ := h
  have hq1 : pBlk g #[.int .i64 (fK id), .int .i64 (fW id), .int .i64 (fM id), .int .i64 (fB id), .int .u64 (fT id), .int .u64 (fI id), .int .u64 (fN id), .int .i64 id, .slice A9 n9 c9] 135 w' := by
    have hlt := q1.lt
    unfold pBlk at q1 ⊢
    rw [hg.block g hlt (Ne.symm hne)]
    exact q1
  obtain ⟨A1, c1, zs, e1, r1, r2⟩ := q2
  injection e1 with e1 e2 e3
  subst e1; subst e2; subst e3
  have hq2 : IsT w' (.slice A9 zs.length c9) 16 X := by
    refine ⟨A9, c9, zs, rfl, ⟨?_, fun b off e j hj => ?_⟩, r2⟩
    · rcases r1.place with h1 | ⟨b1, o1, f1, h1⟩
      · exact .inl h1
      · exact .inr ⟨b1, o1, f1, Nat.lt_of_lt_of_le h1 hg.size⟩
    · have hc := r1.cells b off e j hj
      have hlt : b < w.heap.size := cell_lt hc
      have hnr : some b ≠ row := fun e9 => by
        rcases q3 with h0 | ⟨b2, o2, f2, h2⟩
        · omega
        · rw [e] at f2
          injection f2 with f2
          injection f2 with f2
          subst f2
          exact h2 (hr b e9.symm)
      rw [World.cell?_of_block (hg.block b hlt hnr)]
      exact hc
  refine ⟨A9, zs.length, c9, hq1, hq2, ?_⟩
  rcases q3 with h0 | ⟨b, off, e, h2⟩
  · exact .inl h0
  · by_cases h0 : zs.length = 0
    · exact .inl h0
    refine .inr ⟨b, off, e, fun hb => ?_⟩
    rcases hF b hb with h3 | h3
    · exact h2 h3
    · have hc := r1.cells b off e 0 (by omega)
      have := cell_lt hc
      simp at this
      omega
/-- What stands: the quire of bits X, the bytes L, what was told O. -/
structure PlS (w0 : World) (base g : Nat) (id : Int) (Bv Ov : Value) (L : List UInt8) (X : Nat) (O : List Nat) (w : World) : Prop where
  below : Below w0.heap.size w0 w
  g0 : w0.heap.size ≤ g
  b0 : w0.heap.size ≤ base
  g1 : g < base
  bs : base ≤ w.heap.size
  brow : w.ownsRow base 5 1 Bv L.length (lBv L)
  row : w.ownsRow base 22 1 Ov O.length (lU O)
  qu : QuF (fun b => Ov.ownBlock = some b ∨ Bv.ownBlock = some b) g id X w
  ap : ∀ b, Bv.ownBlock = some b → Ov.ownBlock ≠ some b
section
variable {w0 w w' : World} {base g X : Nat} {id : Int} {Bv Ov : Value} {L M : List UInt8} {O : List Nat}
theorem kept_none (v : Value) : v.ownBlock = none ∨ v.ownBlock ≠ none := by
  cases h : v.ownBlock with
  | none => exact .inl rfl
  | some k => exact .inr (by simp)
theorem PlS.go (h : PlS w0 base g id Bv Ov L X O w) (hb : Below w.heap.size w w') : PlS w0 base g id Bv Ov L X O w' :=
  ⟨h.below.trans (hb.mono h.below.size), h.g0, h.b0, h.g1, Nat.le_trans h.bs hb.size, h.brow.kept (grown_below hb) (kept_none _), h.row.kept (grown_below hb) (kept_none _), h.qu.below hb, h.ap⟩
theorem far_row {v : Value} {n k : Nat} {t : TypeId} {l : List Value} (h : w.ownsRow base t 1 v n l) (hk : k < base) : v.ownBlock = none ∨ v.ownBlock ≠ some k := by
  cases hO : v.ownBlock with
  | none => exact .inl rfl
  | some j =>
    refine .inr fun e => ?_
    injection e with e
    have := (h.lt j hO).1
    omega
theorem PlS.bits {X' : Nat} (h : PlS w0 base g id Bv Ov L X O w) (hq : QuF (fun b => Ov.ownBlock = some b ∨ Bv.ownBlock = some b) g id X' w') (hm : Mut g w w') : PlS w0 base g id Bv Ov L X' O w' :=
  ⟨h.below.trans (hm.below h.below.size h.g0), h.g0, h.b0, h.g1, Nat.le_trans h.bs hm.size, h.brow.kept (grown_mut hm) (far_row h.brow h.g1), h.row.kept (grown_mut hm) (far_row h.row h.g1), hq, h.ap⟩
theorem PlS.hF (h : PlS w0 base g id Bv Ov L X O w) : ∀ b, (fun b => Ov.ownBlock = some b ∨ Bv.ownBlock = some b) b → b < w.heap.size := fun b hb => by
  rcases hb with hb | hb
  · exact (h.row.lt b hb).2
  · exact (h.brow.lt b hb).2
theorem below_grown2 {row : Option Nat} (h : Below w0.heap.size w0 w) (hg : w.grownBy w' row) (hr : ∀ b, row = some b → w0.heap.size ≤ b) : Below w0.heap.size w0 w' :=
  h.trans (below_grownO hg hr h.size)
theorem PlS.appB {A' : Option Addr} {n' c' : Nat} (h : PlS w0 base g id Bv Ov L X O w) (ho : w'.ownsRow base 5 1 (.slice A' n' c') (L.length + M.length) (lBv (L ++ M))) (hg : w.grownBy w' Bv.ownBlock)
    (hp : (Value.slice A' n' c').ownBlock = Bv.ownBlock ∨ ∀ b, (Value.slice A' n' c').ownBlock = some b → w.heap.size ≤ b) : PlS w0 base g id (.slice A' n' c') Ov (L ++ M) X O w' := by
  refine ⟨below_grown2 h.below hg fun b hb => Nat.le_trans h.b0 (h.brow.lt b hb).1, h.g0, h.b0, h.g1, Nat.le_trans h.bs hg.size, by rw [List.length_append]; exact ho, h.row.kept hg ?_, h.qu.grown hg ?_ (fun b hb => .inr hb) ?_, ?_⟩
  · cases hO : Ov.ownBlock with
    | none => exact .inl rfl
    | some j => exact .inr fun e => h.ap j e.symm hO
  · intro e
    have := (h.brow.lt g e).1
    have := h.g1
    omega
  · intro b hb
    rcases hb with hb | hb
    · exact .inl (.inl hb)
    · rcases hp with hp | hp
      · rw [hp] at hb; exact .inl (.inr hb)
      · exact .inr (hp b hb)
  · intro b hb
    rcases hp with hp | hp
    · rw [hp] at hb; exact h.ap b hb
    · intro e
      have h1 := hp b hb
      have h2 := (h.row.lt b e).2
      omega
theorem PlS.appO {A' : Option Addr} {n' c' y : Nat} (h : PlS w0 base g id Bv Ov L X O w) (ho : w'.ownsRow base 22 1 (.slice A' n' c') (O.length + 1) (lU (O ++ [y]))) (hg : w.grownBy w' Ov.ownBlock)
    (hp : (Value.slice A' n' c').ownBlock = Ov.ownBlock ∨ ∀ b, (Value.slice A' n' c').ownBlock = some b → w.heap.size ≤ b) : PlS w0 base g id Bv (.slice A' n' c') L X (O ++ [y]) w' := by
  refine ⟨below_grown2 h.below hg fun b hb => Nat.le_trans h.b0 (h.row.lt b hb).1, h.g0, h.b0, h.g1, Nat.le_trans h.bs hg.size, h.brow.kept hg ?_, by rw [List.length_append]; exact ho, h.qu.grown hg ?_ (fun b hb => .inl hb) ?_, ?_⟩
  · cases hO : Bv.ownBlock with
    | none => exact .inl rfl
    | some j => exact .inr fun e => h.ap j hO e.symm
  · intro e
    have := (h.row.lt g e).1
    have := h.g1
    omega
  · intro b hb
    rcases hb with hb | hb
    · rcases hp with hp | hp
      · rw [hp] at hb; exact .inl (.inl hb)
      · exact .inr (hp b hb)
    · exact .inl (.inr hb)
  · intro b hb
    rcases hp with hp | hp
    · rw [hp]; exact h.ap b hb
    · intro e
      have h1 := hp b e
      have h2 := (h.brow.lt b hb).2
      omega
end
end Go.Proofs.YtobokaafmcfeaaaGreatDoor
namespace Go.Proofs.YtobokaafmcfeaaaGreatDoor
open Go.RowKit Go.Cal
/-- Operations that were handed in: each three cells. -/
def ArgA (w : World) (v : Value) : Prop := ∃ A n c, v = .slice A n c ∧ n ≤ c ∧ c ≤ maxLen ∧ ∀ i, i < n → ∃ b off, A = some ⟨b, off, none⟩ ∧ b < w.heap.size ∧
  ∃ (o : Int) (x y : Nat), w.cell? ⟨b, off + i * 3, none⟩ = some (.int .i64 o) ∧ w.cell? ⟨b, off + i * 3 + 1, none⟩ = some (.int .u64 (x : Nat)) ∧ w.cell? ⟨b, off + i * 3 + 2, none⟩ = some (.int .u64 (y : Nat)) ∧
    x < 18446744073709551616 ∧ y < 18446744073709551616
end Go.Proofs.YtobokaafmcfeaaaGreatDoor
namespace Go.Proofs.YtobokaafmcfeaaaGreatDoor
open Go.ChangeShapes Go.WideShapes Go.ChangeAt Go.RowKit Go.Cal
set_option maxRecDepth 100000 in
theorem argA_of {H : Type} {enc : TypeId × Value → H} {W : World} {v : Value} {d : DataW H} {p : List MemPlace} {sp : Nat → Bool} {hd : Bool} {base : Nat}
    (hv : Value.okWide Tryz.prog W .any base 47 v) (h : DataW.Trod enc Tryz.prog W 0 sp hd 47 v d p) (hlt : ∀ x ∈ p, x.block < W.heap.size) : ArgA W v := by
  obtain ⟨a0, len, cap, rfl⟩ := okWide_slice Tryz.underlying47 hv
  obtain ⟨fuel, h⟩ := h
  rcases Go.Deep.open_slice Tryz.underlying47 h with ⟨h1, _⟩ | ⟨a, len', cap', m, n, D, Pl, h1, h2, h3, h4, h5, h6, h7⟩
  · simp [Value.cells] at h1
    obtain ⟨rfl, rfl, rfl⟩ := h1
    exact ⟨none, 0, 0, rfl, Nat.le_refl _, by unfold maxLen; omega, fun i hi => by omega⟩
  · simp [Value.cells] at h1
    obtain ⟨rfl, rfl, rfl⟩ := h1
    have hlm : len ≤ m := by rw [h5]; split <;> omega
    have ce : Tryz.prog.cellsOf 53 = 3 := by kernel_rfl
    have ci : Tryz.prog.cellsOf 3 = 1 := by kernel_rfl
    have cu : Tryz.prog.cellsOf 22 = 1 := by kernel_rfl
    refine ⟨some a, len, cap, rfl, h3, h4, fun i hi => ?_⟩
    have hspot : a.spot = none := by
      obtain ⟨cs0, d1, _⟩ := h7 0 (by omega)
      rw [ce] at d1
      obtain ⟨_, hl0, hc0⟩ := World.cells?_some d1
      have e := hc0 0 (by omega)
      rw [List.getElem?_eq_getElem (by omega)] at e
      have h9 := World.cell?_spot e
      simpa [Addr.add] using h9
    obtain ⟨cs', c1, c2⟩ := h7 i (by omega)
    rw [ce] at c1
    obtain ⟨_, hlen, hcell⟩ := World.cells?_some c1
    obtain ⟨xs, k, hk, hxy, _, hxl, hf⟩ := DataW.trod_struct Tryz.underlying53 c2
    match cs', hlen with
    | [v0, v1, v2], _ =>
      have e0 := hcell 0 (by omega)
      have e1 := hcell 1 (by omega)
      have e2 := hcell 2 (by omega)
      have g0 := hf 0 _ rfl
      have g1 := hf 1 _ rfl
      have g2 := hf 2 _ rfl
      simp [ci, cu] at g0 g1 g2
      have x0 : ∃ y, xs[0]? = some y := ⟨_, List.getElem?_eq_getElem (by rw [hxl]; decide)⟩
      have x1 : ∃ y, xs[1]? = some y := ⟨_, List.getElem?_eq_getElem (by rw [hxl]; decide)⟩
      have x2 : ∃ y, xs[2]? = some y := ⟨_, List.getElem?_eq_getElem (by rw [hxl]; decide)⟩
      obtain ⟨y0, x0⟩ := x0
      obtain ⟨y1, x1⟩ := x1
      obtain ⟨y2, x2⟩ := x2
      rw [x0] at g0
      rw [x1] at g1
      rw [x2] at g2
      obtain ⟨n0, r0, -, w0⟩ := DataW.trod_int Tryz.underlying3 g0
      obtain ⟨n1, r1, -, w1⟩ := DataW.trod_int Tryz.underlying22 g1
      obtain ⟨n2, r2, -, w2⟩ := DataW.trod_int Tryz.underlying22 g2
      simp at r0 r1 r2
      subst r0; subst r1; subst r2
      have b1 := bounds_u64 w1
      have b2 := bounds_u64 w2
      obtain ⟨b, off, spot⟩ := a
      have hspot : spot = none := hspot
      subst hspot
      simp [Addr.add_lit] at e0 e1 e2
      have hin : MemPlace.cell b off ∈ p := by
        rw [(Prod.mk.inj h6).2]
        exact List.mem_append_left _ (MemPlace.mem_row.2 ⟨0, by rw [ce]; omega, rfl⟩)
      obtain ⟨x, hx⟩ : ∃ x : Nat, n1 = x := ⟨n1.toNat, by omega⟩
      obtain ⟨y, hy⟩ : ∃ y : Nat, n2 = y := ⟨n2.toNat, by omega⟩
      subst hx; subst hy
      exact ⟨b, off, rfl, hlt _ hin, n0, x, y, e0, e1, e2, by omega, by omega⟩
end Go.Proofs.YtobokaafmcfeaaaGreatDoor
namespace Go.Proofs.YtobokaafmcfeaaaGreatDoor
open Go.RowKit Go.Cal
section
variable {w W W' : World} {A A1 : Option Addr} {n c n1 c1 N g x : Nat} {id k t f : Int}
end
section
variable {w : World} {A : Option Addr} {n c N g : Nat} {id k : Int}
end
end Go.Proofs.YtobokaafmcfeaaaGreatDoor
namespace Go.Proofs.YtobokaafmcfeaaaGreatDoor
open Go.RowKit Go.Cal
section
variable {w0 w w' : World} {base g rb bx mb n c X p : Nat} {id wd : Int} {B : Option Addr} {E : Nat → Array Value → TypeId → Prop} {Ov : Value} {O : List Nat} {l : List UInt8}
end
end Go.Proofs.YtobokaafmcfeaaaGreatDoor
namespace Go.Proofs.YtobokaafmcfeaaaGreatDoor
open Go.RowKit Go.Cal
theorem patN_be : ∀ (k x N : Nat), patN (beB k x) N = N * 256 ^ k + x % 256 ^ k
  | 0, x, N => by simp [beB, patN, Nat.mod_one]
  | k + 1, x, N => by
    rw [beB, patN, patN_be k x]
    have h1 : (UInt8.ofNat (x / 256 ^ k % 256)).toNat = x / 256 ^ k % 256 := by simp
    rw [h1, Nat.pow_succ, Nat.mod_mul, Nat.add_mul]
    rw [Nat.mul_assoc N 256, Nat.mul_comm 256 (256 ^ k), Nat.mul_comm (x / 256 ^ k % 256)]
    omega
theorem patN_own {k x : Nat} (h : x < 256 ^ k) : patN (beB k x) 0 = x := by
  rw [patN_be, Nat.zero_mul, Nat.zero_add, Nat.mod_eq_of_lt h]
def actX (id : Int) (X op x y : Nat) : Nat := if op = 0 then 0 else if op = 1 then quDo id X (x : Nat) (y : Nat) false else if op = 2 then quDo id X (x : Nat) (y : Nat) true else if op = 3 then quNg id X else X
def actO (id : Int) (X : Nat) (O : List Nat) (op : Nat) : List Nat := if op = 4 then O ++ [(quP id X).toNat] else O
theorem step_act {id : Int} {X : Nat} {O : List Nat} {op x y : Nat} (ho : op ≤ 4) (hx : x < 256 ^ ((fW id).toNat / 8)) (hy : y < 256 ^ ((fW id).toNat / 8)) :
    stepP id X O (wrB id op x y) = ⟨0, (wrB id op x y).length, actX id X op x y, actO id X O op⟩ := by
  have h : op = 0 ∨ op = 1 ∨ op = 2 ∨ op = 3 ∨ op = 4 := by omega
  have l1 := beB_len ((fW id).toNat / 8) x
  have l2 := beB_len ((fW id).toNat / 8) y
  have p1 := patN_own hx
  have p2 := patN_own hy
  rcases h with rfl | rfl | rfl | rfl | rfl
  · rfl
  · simp only [wrB, true_or, if_true]
    rw [stepP, if_neg (by decide), if_pos (by decide), if_neg (by rw [List.length_append, l1, l2]; omega)]
    rw [List.take_append_of_le_length (by omega), List.drop_append_of_le_length (by omega), List.take_of_length_le (by omega), List.drop_of_length_le (by omega), List.nil_append, List.take_of_length_le (by omega), p1, p2]
    rw [List.length_cons, List.length_append, l1, l2]
    simp [actX, actO]
    omega
  · simp only [wrB, or_true, if_true]
    rw [stepP, if_neg (by decide), if_pos (by decide), if_neg (by rw [List.length_append, l1, l2]; omega)]
    rw [List.take_append_of_le_length (by omega), List.drop_append_of_le_length (by omega), List.take_of_length_le (by omega), List.drop_of_length_le (by omega), List.nil_append, List.take_of_length_le (by omega), p1, p2]
    rw [List.length_cons, List.length_append, l1, l2]
    simp [actX, actO]
    omega
  · rfl
  · rfl
theorem run_snoc {id : Int} {m : List UInt8} : ∀ (n X : Nat) (O : List Nat) (l : List UInt8) (X' : Nat) (O' : List Nat) (X2 : Nat) (O2 : List Nat), runP id n X O l = ⟨0, l.length, X', O'⟩ →
    stepP id X' O' m = ⟨0, m.length, X2, O2⟩ → runP id (n + 1) X O (l ++ m) = ⟨0, (l ++ m).length, X2, O2⟩
  | n, X, O, [], X', O', X2, O2, h, hs => by
    rw [runP_nil] at h
    injection h with h1 h2 h3 h4
    subst h3; subst h4
    cases m with
    | nil => simp [stepP] at hs
    | cons c r =>
      rw [List.nil_append, runP_ok hs, List.drop_of_length_le (Nat.le_refl _), runP_nil]
      rfl
  | 0, X, O, _ :: _, X', O', X2, O2, h, _ => by simp [runP] at h
  | n + 1, X, O, c :: r, X', O', X2, O2, h, hs => by
    by_cases h1 : (stepP id X O (c :: r)).err = 0
    · obtain ⟨u1, u2⟩ := step_used h1
      rw [runP, if_pos h1] at h
      injection h with g1 g2 g3 g4
      have hl : ((c :: r).drop (stepP id X O (c :: r)).used).length = (c :: r).length - (stepP id X O (c :: r)).used := List.length_drop
      have e := run_snoc (m := m) n (stepP id X O (c :: r)).X (stepP id X O (c :: r)).O ((c :: r).drop (stepP id X O (c :: r)).used) X' O' X2 O2
        (by rw [← g1, ← g3, ← g4, hl, show (c :: r).length - (stepP id X O (c :: r)).used = (runP id n (stepP id X O (c :: r)).X (stepP id X O (c :: r)).O ((c :: r).drop (stepP id X O (c :: r)).used)).used by omega]) hs
      have hm1 := step_more h1 m
      rw [List.cons_append] at hm1 ⊢
      rw [runP, hm1, if_pos h1, ← List.cons_append, List.drop_append_of_le_length u2, e]
      simp only [List.length_append, hl]
      congr 1
      omega
    · rw [runP_no h1] at h
      injection h with g1
      exact absurd g1 h1
end Go.Proofs.YtobokaafmcfeaaaGreatDoor
namespace Go.Proofs.YtobokaafmcfeaaaGreatDoor
open Go.RowKit Go.Cal
set_option maxRecDepth 100000 in
set_option maxHeartbeats 2000000 in
theorem wr_clear {id : Int} {w : World} (h1 : 1 ≤ id) (h4 : id ≤ 4) (hW : VaW w) : Calls Tryz.prog 29 #[.int .i64 id, .int .i64 0, .int .u64 0, .int .u64 0, .string ⟨#[]⟩] w (TellsB w (wrB id 0 0 0)) := by
  have hft := Lib.hid fun (W : World) (hW : VaW W) => fits_y (p := 0) h1 h4 (Nat.pow_pos (by decide)) W hW
  have hof := Lib.hid (sof_yes id h1 h4 w hW)
  go_enter Tryz.func29, Tryz.ntmps29
  go_wp2_with fail
  refine hof.out.mono ?_
  rintro e w1 ⟨rfl, hb1⟩
  have pF := pBlk_made w1 #[.int .i64 (fK id), .int .i64 (fW id), .int .i64 (fM id), .int .i64 (fB id), .int .u64 (fT id), .int .u64 (fI id), .int .u64 (fN id)] 67
  have hB1 := hb1.trans (((Below.refl w1.heap.size w1).alloc (Nat.le_refl _) (.cells #[.int .i64 (fK id), .int .i64 (fW id), .int .i64 (fM id), .int .i64 (fB id), .int .u64 (fT id), .int .u64 (fI id), .int .u64 (fN id)] 67)).mono hb1.size)
  have cF := pF.cell 1 _ rfl
  have hFl := pF.lt
  clear hb1 hof
  clear cF hFl pF
  go_wp2_with fail
  refine (hft.out _ (hW.below hB1)).mono ?_
  rintro e w2 ⟨rfl, hb2⟩
  have hB2 := hB1.trans (hb2.mono hB1.size)
  go_wp2_with fail
  refine (hft.out _ (hW.below hB2)).mono ?_
  rintro e w3 ⟨rfl, hb3⟩
  have hB3 := hB2.trans (hb3.mono hB2.size)
  have ho := ownB_made (base := w.heap.size) (w := w3) 0 (.int .u8 0) rfl hB3.size
  go_wp2
  go_ret2
  exact ⟨_, 1, rfl, by simpa [wrB] using ho, hB3.trans (((Below.refl _ _).alloc (Nat.le_refl _) _).mono hB3.size)⟩
set_option maxRecDepth 100000 in
set_option maxHeartbeats 2000000 in
theorem wr_neg {id : Int} {w : World} (h1 : 1 ≤ id) (h4 : id ≤ 4) (hW : VaW w) : Calls Tryz.prog 29 #[.int .i64 id, .int .i64 3, .int .u64 0, .int .u64 0, .string ⟨#[]⟩] w (TellsB w (wrB id 3 0 0)) := by
  have hft := Lib.hid fun (W : World) (hW : VaW W) => fits_y (p := 0) h1 h4 (Nat.pow_pos (by decide)) W hW
  have hof := Lib.hid (sof_yes id h1 h4 w hW)
  go_enter Tryz.func29, Tryz.ntmps29
  go_wp2_with fail
  refine hof.out.mono ?_
  rintro e w1 ⟨rfl, hb1⟩
  have pF := pBlk_made w1 #[.int .i64 (fK id), .int .i64 (fW id), .int .i64 (fM id), .int .i64 (fB id), .int .u64 (fT id), .int .u64 (fI id), .int .u64 (fN id)] 67
  have hB1 := hb1.trans (((Below.refl w1.heap.size w1).alloc (Nat.le_refl _) (.cells #[.int .i64 (fK id), .int .i64 (fW id), .int .i64 (fM id), .int .i64 (fB id), .int .u64 (fT id), .int .u64 (fI id), .int .u64 (fN id)] 67)).mono hb1.size)
  have cF := pF.cell 1 _ rfl
  have hFl := pF.lt
  clear hb1 hof
  clear cF hFl pF
  go_wp2_with fail
  refine (hft.out _ (hW.below hB1)).mono ?_
  rintro e w2 ⟨rfl, hb2⟩
  have hB2 := hB1.trans (hb2.mono hB1.size)
  go_wp2_with fail
  refine (hft.out _ (hW.below hB2)).mono ?_
  rintro e w3 ⟨rfl, hb3⟩
  have hB3 := hB2.trans (hb3.mono hB2.size)
  have ho := ownB_made (base := w.heap.size) (w := w3) 3 (.int .u8 3) rfl hB3.size
  go_wp2
  go_ret2
  exact ⟨_, 1, rfl, by simpa [wrB] using ho, hB3.trans (((Below.refl _ _).alloc (Nat.le_refl _) _).mono hB3.size)⟩
set_option maxRecDepth 100000 in
set_option maxHeartbeats 2000000 in
theorem wr_out {id : Int} {w : World} (h1 : 1 ≤ id) (h4 : id ≤ 4) (hW : VaW w) : Calls Tryz.prog 29 #[.int .i64 id, .int .i64 4, .int .u64 0, .int .u64 0, .string ⟨#[]⟩] w (TellsB w (wrB id 4 0 0)) := by
  have hft := Lib.hid fun (W : World) (hW : VaW W) => fits_y (p := 0) h1 h4 (Nat.pow_pos (by decide)) W hW
  have hof := Lib.hid (sof_yes id h1 h4 w hW)
  go_enter Tryz.func29, Tryz.ntmps29
  go_wp2_with fail
  refine hof.out.mono ?_
  rintro e w1 ⟨rfl, hb1⟩
  have pF := pBlk_made w1 #[.int .i64 (fK id), .int .i64 (fW id), .int .i64 (fM id), .int .i64 (fB id), .int .u64 (fT id), .int .u64 (fI id), .int .u64 (fN id)] 67
  have hB1 := hb1.trans (((Below.refl w1.heap.size w1).alloc (Nat.le_refl _) (.cells #[.int .i64 (fK id), .int .i64 (fW id), .int .i64 (fM id), .int .i64 (fB id), .int .u64 (fT id), .int .u64 (fI id), .int .u64 (fN id)] 67)).mono hb1.size)
  have cF := pF.cell 1 _ rfl
  have hFl := pF.lt
  clear hb1 hof
  clear cF hFl pF
  go_wp2_with fail
  refine (hft.out _ (hW.below hB1)).mono ?_
  rintro e w2 ⟨rfl, hb2⟩
  have hB2 := hB1.trans (hb2.mono hB1.size)
  go_wp2_with fail
  refine (hft.out _ (hW.below hB2)).mono ?_
  rintro e w3 ⟨rfl, hb3⟩
  have hB3 := hB2.trans (hb3.mono hB2.size)
  have ho := ownB_made (base := w.heap.size) (w := w3) 4 (.int .u8 4) rfl hB3.size
  go_wp2
  go_ret2
  exact ⟨_, 1, rfl, by simpa [wrB] using ho, hB3.trans (((Below.refl _ _).alloc (Nat.le_refl _) _).mono hB3.size)⟩
set_option maxRecDepth 100000 in
set_option maxHeartbeats 4000000 in
theorem wr_sub {id : Int} {w : World} {x y : Nat} (h1 : 1 ≤ id) (h4 : id ≤ 4) (hW : VaW w) (hx : x < 256 ^ ((fW id).toNat / 8)) (hy : y < 256 ^ ((fW id).toNat / 8)) : Calls Tryz.prog 29 #[.int .i64 id, .int .i64 2, .int .u64 (x : Nat), .int .u64 (y : Nat), .string ⟨#[]⟩] w (TellsB w (wrB id 2 x y)) := by
  have hftx := Lib.hid fun (W : World) (hW : VaW W) => fits_y h1 h4 hx W hW
  have hfty := Lib.hid fun (W : World) (hW : VaW W) => fits_y h1 h4 hy W hW
  have hof := Lib.hid (sof_yes id h1 h4 w hW)
  go_enter Tryz.func29, Tryz.ntmps29
  go_wp2_with fail
  refine hof.out.mono ?_
  rintro e w1 ⟨rfl, hb1⟩
  have pF := pBlk_made w1 #[.int .i64 (fK id), .int .i64 (fW id), .int .i64 (fM id), .int .i64 (fB id), .int .u64 (fT id), .int .u64 (fI id), .int .u64 (fN id)] 67
  have hB1 := hb1.trans (((Below.refl w1.heap.size w1).alloc (Nat.le_refl _) (.cells #[.int .i64 (fK id), .int .i64 (fW id), .int .i64 (fM id), .int .i64 (fB id), .int .u64 (fT id), .int .u64 (fI id), .int .u64 (fN id)] 67)).mono hb1.size)
  have cF := pF.cell 1 _ rfl
  have hFl := pF.lt
  clear hb1 hof
  go_wp2_with fail
  refine (hftx.out _ (hW.below hB1)).mono ?_
  rintro e w2 ⟨rfl, hb2⟩
  have hB2 := hB1.trans (hb2.mono hB1.size)
  go_wp2_with fail
  refine (hfty.out _ (hW.below hB2)).mono ?_
  rintro e w3 ⟨rfl, hb3⟩
  have hB3 := hB2.trans (hb3.mono hB2.size)
  have ho := ownB_made (base := w.heap.size) (w := w3) 2 (.int .u8 2) rfl hB3.size
  have hal4 := (((Below.refl w3.heap.size w3).alloc (Nat.le_refl _) (.cells #[.int .u8 2] 5))).alloc (by simp) (.cells #[.int .u64 (x : Nat), .int .u64 (y : Nat)] 22)
  have hB4 := hB3.trans (hal4.mono hB3.size)
  have ho4 := ho.alloc (.cells #[.int .u64 (x : Nat), .int .u64 (y : Nat)] 22)
  have pXY := pBlk_madeR (w3.alloc (.cells #[.int .u8 2] 5)) #[.int .u64 (x : Nat), .int .u64 (y : Nat)] 22 (w3.heap.size + 1) (by simp)
  have pF4 := pBlk_st _ _ _ _ _ (pBlk_st _ _ _ _ _ (pBlk_st _ _ _ _ _ pF hb2) hb3) hal4
  have hp8 := posit_bytes h1 h4
  obtain ⟨w1', w2', w3', w4', w5', -⟩ := fo_wide h1 (show id < 15 by omega)
  have hk8 : (fW id).toNat / 8 ≤ 8 := by obtain ⟨-, -, -, -, s5⟩ := quS_bnd h1 h4; omega
  obtain ⟨k, hk⟩ : ∃ k, (fW id).toNat / 8 = k := ⟨_, rfl⟩
  have hfw : fW id = 8 * (k : Int) := by omega
  have hend : Hid (wrB id 2 x y = [2] ++ beB k x ++ beB k y) := by
    show _ = _
    unfold wrB
    rw [if_pos (by decide), hk]
    rfl
  rw [hk] at hk8 hx hy
  rw [hfw] at pF4
  have hx64 : x < 18446744073709551616 := Nat.lt_of_lt_of_le hx (Nat.le_trans (Nat.pow_le_pow_right (by decide) hk8) (by decide))
  have hy64 : y < 18446744073709551616 := Nat.lt_of_lt_of_le hy (Nat.le_trans (Nat.pow_le_pow_right (by decide) hk8) (by decide))
  have hFl3 := Nat.lt_of_lt_of_le hFl hb2.size
  have hb3s := hb3.size
  clear hk hp8 w1' w2' w3' w4' w5' hx hy hftx hfty cF hFl pF hb2 hb3 hB1 hB2 hal4 ho hW h1 h4 hfw hB3
  go_wp2_with fail
  obtain ⟨W4, hW4⟩ : ∃ W4, (w3.alloc (.cells #[.int .u8 2] 5)).alloc (.cells #[.int .u64 (x : Nat), .int .u64 (y : Nat)] 22) = W4 := ⟨_, rfl⟩
  rw [hW4] at hB4 ho4 pXY pF4 ⊢
  clear hW4
  have hsF : w1.heap.size < w3.heap.size := Nat.lt_of_lt_of_le hFl3 hb3s
  obtain ⟨sX, hsX⟩ : ∃ s, w3.heap.size + 1 = s := ⟨_, rfl⟩
  obtain ⟨sF, hsFe⟩ : ∃ s, w1.heap.size = s := ⟨_, rfl⟩
  have hpl4 : ∀ b, (Value.slice (some ⟨w3.heap.size, 0, none⟩) 1 1).ownBlock = some b → b ≠ sX ∧ b ≠ sF := fun b hb => by
    simp [Value.ownBlock] at hb
    omega
  rw [hsX] at pXY ⊢
  rw [hsFe] at pF4 ⊢
  clear hsX hsFe hsF
  refine wp_loop_rounds 3 ?_
  rw [rounds_succ]
  have c0 := pXY.cell 0 _ rfl
  have cF := pF4.cell 1 _ rfl
  have hXl := pXY.lt
  have hFl := pF4.lt
  have hwr8 : IntKind.i64.wrap (8 * (k : Int) - 8) = 8 * (k : Int) - 8 := by rw [IntKind.wrap_i64]; omega
  go_wp2_with fail
  go_loopg [15, 18] k (fun m pb pi wr => ∃ (j : Nat) (A' : Option Addr) (n' c' : Nat), pb = .slice A' n' c' ∧ pi = .int .i64 (8 * (k : Int) - 8 - 8 * (j : Int)) ∧ j + m = k ∧ wr.ownsRow w.heap.size 5 1 (.slice A' n' c') (1 + j) (lBv (([2] : List UInt8) ++ (beB k x).take j)) ∧ Below w.heap.size w wr ∧ pBlk sX #[.int .u64 (x : Nat), .int .u64 (y : Nat)] 22 wr ∧ pBlk sF #[.int .i64 (fK id), .int .i64 (8 * (k : Int)), .int .i64 (fM id), .int .i64 (fB id), .int .u64 (fT id), .int .u64 (fI id), .int .u64 (fN id)] 67 wr ∧ ∀ b, (Value.slice A' n' c').ownBlock = some b → b ≠ sX ∧ b ≠ sF)
  case atStart => exact ⟨0, _, _, _, rfl, by simp, by omega, by simpa using ho4, hB4, pXY, pF4, hpl4⟩
  case round =>
    clear pXY pF4 ho4 hB4 hpl4 c0 cF hXl hFl
    obtain ⟨j, A', n', c', rfl, rfl, hjm, hob, hBr, pX, pFr, hpl⟩ := hrel
    by_cases hjk : j < k
    · obtain ⟨t, ht⟩ : ∃ t : Nat, k - 1 - j = t := ⟨_, rfl⟩
      have hz : 8 * (k : Int) - 8 - 8 * (j : Int) = ((8 * t : Nat) : Int) := by omega
      rw [hz]
      have hnn : (0 : Int) ≤ ((8 * t : Nat) : Int) := by omega
      have hcv := byte_val x t
      have hbe := be_app (l := ([2] : List UInt8)) (x := x) hjk
      rw [ht] at hbe
      obtain ⟨c, hc⟩ : ∃ c, UInt8.ofNat (x / 256 ^ t % 256) = c := ⟨_, rfl⟩
      rw [hc] at hcv hbe
      have hal := (Below.refl wr.heap.size wr).alloc (Nat.le_refl _) (.cells #[.int .u8 (c.toNat : Nat)] 5)
      have hBa := hBr.trans (hal.mono hBr.size)
      have pXa := pBlk_st _ _ _ _ _ pX hal
      have pFa := pBlk_st _ _ _ _ _ pFr hal
      have hca := (pBlk_made wr #[.int .u8 (c.toNat : Nat)] 5).cell 0 _ rfl
      have hoa := hob.alloc (.cells #[.int .u8 (c.toNat : Nat)] 5)
      have hwt : IntKind.i64.wrap (((8 * t : Nat) : Int) - 8) = ((8 * t : Nat) : Int) - 8 := by rw [IntKind.wrap_i64]; omega
      replace hbe := Lib.hid hbe
      clear hc
      go_wp2_with (at_builtin; refine wpList_app1 rfl _ _ rfl rfl rfl hoa hca (by omega) hBa.size ?_; intro A2 n2 c2 w' ho' hg' hp')
      have hBw := hBa.trans (below_grownO hg' (fun b hb => (hoa.lt b hb).1) hBa.size)
      have pXw := blk_grownO pXa hg' (fun e => (hpl _ e).1 rfl)
      have pFw := blk_grownO pFa hg' (fun e => (hpl _ e).2 rfl)
      rw [hbe.out] at ho'
      have hpw : ∀ b, (Value.slice A2 n2 c2).ownBlock = some b → b ≠ sX ∧ b ≠ sF := fun b hb => by
        rcases hp' with hp' | hp'
        · rw [hp'] at hb; exact hpl b hb
        · have h9 := hp' b hb
          have l1 := pXa.lt
          have l2 := pFa.lt
          omega
      clear hg' hp' hoa hca hal hBa pXa pFa hbe
      go_roundg (gk - 1)
      case measure => omega
      case rel => exact ⟨j + 1, A2, n2, c2, rfl, by simp; omega, by omega, by rw [show 1 + (j + 1) = 1 + j + 1 by omega]; exact ho', hBw, pXw, pFw, hpw⟩
    · have hjk0 : k = j := by omega
      subst hjk0
      have hz : 8 * (k : Int) - 8 - 8 * (k : Int) = -8 := by omega
      rw [hz]
      have hobk : wr.ownsRow w.heap.size 5 1 (.slice A' n' c') (1 + k) (lBv (([2] : List UInt8) ++ beB k x)) := by rw [List.take_of_length_le (by rw [beB_len]; omega)] at hob; exact hob
      have cX0 := pX.cell 0 _ rfl
      have cX1 := pX.cell 1 _ rfl
      have cFr := pFr.cell 1 _ rfl
      have hXl := pX.lt
      have hFl := pFr.lt
      clear hob hjk hz
      go_wp2_with fail
      rw [rounds_succ]
      go_wp2_with fail
      have c0 := pX.cell 1 _ rfl
      have cF := pFr.cell 1 _ rfl
      have hXl := pX.lt
      have hFl := pFr.lt
      have hwr8 : IntKind.i64.wrap (8 * (k : Int) - 8) = 8 * (k : Int) - 8 := by rw [IntKind.wrap_i64]; omega
      go_wp2_with fail
      go_loopg [15, 18] k (fun m pb pi wr => ∃ (j : Nat) (A' : Option Addr) (n' c' : Nat), pb = .slice A' n' c' ∧ pi = .int .i64 (8 * (k : Int) - 8 - 8 * (j : Int)) ∧ j + m = k ∧ wr.ownsRow w.heap.size 5 1 (.slice A' n' c') ((1 + k) + j) (lBv ((([2] : List UInt8) ++ beB k x) ++ (beB k y).take j)) ∧ Below w.heap.size w wr ∧ pBlk sX #[.int .u64 (x : Nat), .int .u64 (y : Nat)] 22 wr ∧ pBlk sF #[.int .i64 (fK id), .int .i64 (8 * (k : Int)), .int .i64 (fM id), .int .i64 (fB id), .int .u64 (fT id), .int .u64 (fI id), .int .u64 (fN id)] 67 wr ∧ ∀ b, (Value.slice A' n' c').ownBlock = some b → b ≠ sX ∧ b ≠ sF)
      case atStart => exact ⟨0, _, _, _, rfl, by simp, by omega, by simpa using hobk, hBr, pX, pFr, hpl⟩
      case round =>
        clear pX pFr hobk hBr hpl c0 cF hXl hFl
        obtain ⟨j, A', n', c', rfl, rfl, hjm, hob, hBr, pX, pFr, hpl⟩ := hrel
        by_cases hjk : j < k
        · obtain ⟨t, ht⟩ : ∃ t : Nat, k - 1 - j = t := ⟨_, rfl⟩
          have hz : 8 * (k : Int) - 8 - 8 * (j : Int) = ((8 * t : Nat) : Int) := by omega
          rw [hz]
          have hnn : (0 : Int) ≤ ((8 * t : Nat) : Int) := by omega
          have hcv := byte_val y t
          have hbe := be_app (l := (([2] : List UInt8) ++ beB k x)) (x := y) hjk
          rw [ht] at hbe
          obtain ⟨c, hc⟩ : ∃ c, UInt8.ofNat (y / 256 ^ t % 256) = c := ⟨_, rfl⟩
          rw [hc] at hcv hbe
          have hal := (Below.refl wr.heap.size wr).alloc (Nat.le_refl _) (.cells #[.int .u8 (c.toNat : Nat)] 5)
          have hBa := hBr.trans (hal.mono hBr.size)
          have pXa := pBlk_st _ _ _ _ _ pX hal
          have pFa := pBlk_st _ _ _ _ _ pFr hal
          have hca := (pBlk_made wr #[.int .u8 (c.toNat : Nat)] 5).cell 0 _ rfl
          have hoa := hob.alloc (.cells #[.int .u8 (c.toNat : Nat)] 5)
          have hwt : IntKind.i64.wrap (((8 * t : Nat) : Int) - 8) = ((8 * t : Nat) : Int) - 8 := by rw [IntKind.wrap_i64]; omega
          replace hbe := Lib.hid hbe
          clear hc
          go_wp2_with (at_builtin; refine wpList_app1 rfl _ _ rfl rfl rfl hoa hca (by omega) hBa.size ?_; intro A2 n2 c2 w' ho' hg' hp')
          have hBw := hBa.trans (below_grownO hg' (fun b hb => (hoa.lt b hb).1) hBa.size)
          have pXw := blk_grownO pXa hg' (fun e => (hpl _ e).1 rfl)
          have pFw := blk_grownO pFa hg' (fun e => (hpl _ e).2 rfl)
          rw [hbe.out] at ho'
          have hpw : ∀ b, (Value.slice A2 n2 c2).ownBlock = some b → b ≠ sX ∧ b ≠ sF := fun b hb => by
            rcases hp' with hp' | hp'
            · rw [hp'] at hb; exact hpl b hb
            · have h9 := hp' b hb
              have l1 := pXa.lt
              have l2 := pFa.lt
              omega
          clear hg' hp' hoa hca hal hBa pXa pFa hbe
          go_roundg (gk - 1)
          case measure => omega
          case rel => exact ⟨j + 1, A2, n2, c2, rfl, by simp; omega, by omega, by rw [show (1 + k) + (j + 1) = (1 + k) + j + 1 by omega]; exact ho', hBw, pXw, pFw, hpw⟩
        · have hjk0 : k = j := by omega
          subst hjk0
          have hz : 8 * (k : Int) - 8 - 8 * (k : Int) = -8 := by omega
          rw [hz]
          have hobk : wr.ownsRow w.heap.size 5 1 (.slice A' n' c') ((1 + k) + k) (lBv ((([2] : List UInt8) ++ beB k x) ++ beB k y)) := by rw [List.take_of_length_le (by rw [beB_len]; omega)] at hob; exact hob
          have cX0 := pX.cell 0 _ rfl
          have cX1 := pX.cell 1 _ rfl
          have cFr := pFr.cell 1 _ rfl
          have hXl := pX.lt
          have hFl := pFr.lt
          clear hob hjk hz
          go_wp2_with fail
          rw [rounds_succ]
          go_wp2_with fail
          have hl : (wrB id 2 x y).length = 1 + k + k := by rw [hend.out]; simp [beB_len]; omega
          have hn9 : n' = 1 + k + k := by
            obtain ⟨A9, c9, e9, -⟩ := read_ownB hobk (by simp [beB_len]; omega)
            injection e9 with _ e2 _
            rw [e2]
            simp [beB_len]
            omega
          subst hn9
          go_ret2
          exact ⟨A', c', by rw [hl]; rfl, by rw [hl, hend.out]; exact hobk, hBr⟩
end Go.Proofs.YtobokaafmcfeaaaGreatDoor
namespace Go.Proofs.YtobokaafmcfeaaaGreatDoor
open Go.RowKit Go.Cal
end Go.Proofs.YtobokaafmcfeaaaGreatDoor
namespace Go.Proofs.YtobokaafmcfeaaaGreatDoor
open Go.RowKit Go.Cal
end Go.Proofs.YtobokaafmcfeaaaGreatDoor
namespace Go.Proofs.YtobokaafmcfeaaaGreatDoor
open Go.RowKit Go.Cal
end Go.Proofs.YtobokaafmcfeaaaGreatDoor
