/- What the statement wants beyond its base. Conditions: none. -/
import Derived.Test.YtobokaafmcfeaaaGreatDoorSk00
import Derived.Test.YtobokaafmcfeaaaGreatDoorSk01
import Derived.Test.YtobokaafmcfeaaaGreatDoorSk02
import Derived.Test.YtobokaafmcfeaaaGreatDoorSk03
import Derived.Test.YtobokaafmcfeaaaGreatDoorSk04
import Derived.Test.YtobokaafmcfeaaaGreatDoorSk05
import Derived.Test.YtobokaafmcfeaaaGreatDoorSk06
import Derived.Test.YtobokaafmcfeaaaGreatDoorSk07
import Derived.Test.YtobokaafmcfeaaaGreatDoorSk08
import Derived.Test.YtobokaafmcfeaaaGreatDoorSk09
import Derived.Test.YtobokaafmcfeaaaGreatDoorSk10
import Derived.Test.YtobokaafmcfeaaaGreatDoorSk11
import Derived.Test.YtobokaafmcfeaaaGreatDoorSk12
import Derived.Test.YtobokaafmcfeaaaGreatDoorSk13
import Derived.Test.YtobokaafmcfeaaaGreatDoorSk14
import Derived.Test.YtobokaafmcfeaaaGreatDoorSk15
import Derived.Test.YtobokaafmcfeaaaGreatDoorSk16
import Derived.Test.YtobokaafmcfeaaaGreatDoorSk17
import Derived.Test.YtobokaafmcfeaaaGreatDoorSk18
import Derived.Test.YtobokaafmcfeaaaGreatDoorSk19
import Derived.Test.YtobokaafmcfeaaaGreatDoorSk20
import Derived.Test.YtobokaafmcfeaaaGreatDoorSk21
import Derived.Test.YtobokaafmcfeaaaGreatDoorSk22
import Derived.Test.YtobokaafmcfeaaaGreatDoorSk23
import Derived.Test.YtobokaafmcfeaaaGreatDoorSk24
import Derived.Test.YtobokaafmcfeaaaGreatDoorSk25
import Derived.Test.YtobokaafmcfeaaaGreatDoorSk26
import Derived.Test.YtobokaafmcfeaaaGreatDoorSk27
import Derived.Test.YtobokaafmcfeaaaGreatDoorSk28
import Derived.Test.YtobokaafmcfeaaaGreatDoorSk29
import Derived.Test.YtobokaafmcfeaaaGreatDoorSk30
import Derived.Test.YtobokaafmcfeaaaGreatDoorSk31
import Derived.Test.YtobokaafmcfeaaaGreatDoorSk32
import Derived.Test.YtobokaafmcfeaaaGreatDoorSk33
import Derived.Test.YtobokaafmcfeaaaGreatDoorSk34
import Derived.Test.YtobokaafmcfeaaaGreatDoorSk35
import Derived.Test.YtobokaafmcfeaaaGreatDoorSk36
import Derived.Test.YtobokaafmcfeaaaGreatDoorSk37
import Derived.Test.YtobokaafmcfeaaaGreatDoorSk38
import Derived.Test.YtobokaafmcfeaaaGreatDoorSk41
import Derived.Test.YtobokaafmcfeaaaGreatDoorSk42
import Derived.Test.YtobokaafmcfeaaaGreatDoorSn00
import Derived.Test.YtobokaafmcfeaaaGreatDoorSn01
import Derived.Test.YtobokaafmcfeaaaGreatDoorSn02
import Derived.WalkKit
import Derived.WalkSpells
import Derived.WalkLawsBesides
import Derived.Deep.QuietTactic
import Derived.BigQuiet
import Derived.Lib.Hide
import Derived.Deep.RegionWith
import Derived.LoopN
import Derived.Laws.MakeOwn
import Derived.Laws.OwnMore
import Derived.Test.YtobokaafmcfeaaaGreatDoorRows
import Derived.Lib.AppendStr
import Derived.Lib.SlBuf
import Derived.ArgAppend
import Derived.Defers
import Derived.Recover
import Derived.Tactics2
import Derived.LaidHandle
import Derived.LaidMore
import Derived.Maps.Keyed
import Derived.WideKeyElems2
import Derived.Maps.OwnSet
import Derived.Deep.RegionHeld3
namespace Go.Cal
theorem canon_unique {b : Nat} (hb : 0 < b) : ∀ {xs ys : List Nat}, Dig b xs → Dig b ys → Top xs → Top ys → vl b xs = vl b ys → xs = ys
  | [], [], _, _, _, _, _ => rfl
  | [], y :: ys, _, hy, _, ty, h => by
    have h1 := vl_pos (b := b) ty (by simp)
    have h2 := Nat.pow_pos (n := (y :: ys).length - 1) hb
    simp only [vl] at h h1
    omega
  | x :: xs, [], hx, _, tx, _, h => by
    have h1 := vl_pos (b := b) tx (by simp)
    have h2 := Nat.pow_pos (n := (x :: xs).length - 1) hb
    simp only [vl] at h h1
    omega
  | x :: xs, y :: ys, hx, hy, tx, ty, h => by
    simp only [vl] at h
    have h1 : x < b := hx x (by simp)
    have h2 : y < b := hy y (by simp)
    have e1 : x = y := by
      have := congrArg (· % b) h
      simpa [Nat.add_mul_mod_self_left, Nat.mod_eq_of_lt h1, Nat.mod_eq_of_lt h2] using this
    subst e1
    have e2 : vl b xs = vl b ys := Nat.eq_of_mul_eq_mul_left hb (by omega)
    have tx' : Top xs := fun hn => by have := tx (by simp); rwa [List.getLast_cons hn] at this
    have ty' : Top ys := fun hn => by have := ty (by simp); rwa [List.getLast_cons hn] at this
    rw [canon_unique hb (fun z hz => hx z (by simp [hz])) (fun z hz => hy z (by simp [hz])) tx' ty' e2]
end Go.Cal
namespace Go.Cal
end Go.Cal
namespace Go.Cal
end Go.Cal
namespace Go.Cal
end Go.Cal
namespace Go.Cal
open Go.RowKit
variable {P : Program}
end Go.Cal
namespace Go.Cal
open Go.RowKit
section
variable {w w' : World} {B B' : Nat} {A : Option Addr} {xs : List Nat}
end
section
variable {w w' : World} {g : Nat} {t : TypeId} {L : List Nat}
end
theorem Nrm.unique {xs ys : List Nat} {N : Nat} (h : Nrm xs N) (k : Nrm ys N) : xs = ys := canon_unique (by omega) h.dig k.dig h.top k.top (h.val.trans k.val.symm)
end Go.Cal
namespace Go.Proofs.YtobokaafmcfeaaaGreatDoor
open Go.RowKit Go.Cal
end Go.Proofs.YtobokaafmcfeaaaGreatDoor
namespace Go.Proofs.YtobokaafmcfeaaaGreatDoor
open Go.RowKit Go.Cal
end Go.Proofs.YtobokaafmcfeaaaGreatDoor
namespace Go.Proofs.YtobokaafmcfeaaaGreatDoor
open Go.RowKit Go.Cal
theorem lBv_at {l : List UInt8} {j : Nat} {v : Value} (h : (lBv l)[j]? = some v) : j < l.length ∧ v = .int .u8 (((l.getD j 0).toNat : Nat) : Int) := by
  have hj : j < l.length := by
    have := (List.getElem?_eq_some_iff.1 h).1
    rwa [lBv_length] at this
  refine ⟨hj, ?_⟩
  simp [lBv, hj] at h
  rw [← h]
  simp [List.getD_eq_getElem?_getD, hj]
theorem lBv_one (l : List UInt8) : ∀ u ∈ lBv l, u.oneCell' = true := by
  intro u hu
  simp only [lBv, List.mem_map] at hu
  obtain ⟨x, _, rfl⟩ := hu
  rfl
theorem ownB_lit2 (w : World) (o : Obj) (l : List UInt8) (C : Array Value) (hC : C = (lBv l).toArray) (hm : l.length ≤ maxLen) : OwnB ((w.alloc o).alloc (.cells C 5)) (w.heap.size + 1) (w.heap.size + 1) l.length l := by
  have hs : (w.alloc o).heap.size = w.heap.size + 1 := by simp
  have h := ownB_lit (w.alloc o) (w.heap.size + 1) l 0 0 C hC (by rw [hs]; exact Nat.le_refl _) hm (.inr rfl)
  rw [hs] at h
  exact h
theorem getD_app_l (a b : List UInt8) {i : Nat} (h : i < a.length) : (a ++ b).getD i 0 = a.getD i 0 := by
  rw [List.getD_eq_getElem?_getD, List.getD_eq_getElem?_getD, List.getElem?_append_left h]
theorem getD_app_r (a b : List UInt8) {i : Nat} : (a ++ b).getD (a.length + i) 0 = b.getD i 0 := by
  simp [List.getD_eq_getElem?_getD, List.getElem?_append_right]
/-- The row that is written at its end. -/
theorem ownB_more {w : World} {base g cap : Nat} {l m : List UInt8} (h : OwnB w base g cap l) (hr : l.length + m.length ≤ cap) : OwnB (w.setCells g l.length (lBv m)) base g cap (l ++ m) := by
  have hb : Below 0 w (w.setCells g l.length (lBv m)) := Lib.below_setCells g (by omega) _ _ (Below.refl _ _)
  have hso : ∀ j, j < (lBv m).length → (w.cell? ⟨g, l.length + j, none⟩).isSome = true := fun j hj => h.some _ (by rw [lBv_length] at hj; omega)
  have hin := World.cell?_setCells_in g (lBv m) l.length w hso
  refine ⟨h.base, Nat.lt_of_lt_of_le h.lt hb.size, by rw [List.length_append]; exact hr, h.capb, fun i hi => ?_, fun i hi => ?_, fun i hi => by rw [World.frozen?_setCells]; exact h.free i hi⟩
  · rcases Nat.lt_or_ge i l.length with hl | hl
    · rw [World.cell?_setCells_out _ _ _ _ _ (fun _ _ => .inl hl), getD_app_l _ _ hl]
      exact h.cells i hl
    · obtain ⟨j, rfl⟩ := Nat.exists_eq_add_of_le hl
      rw [List.length_append] at hi
      have hj : j < (lBv m).length := by rw [lBv_length]; omega
      rw [hin j hj, getD_app_r]
      have := lBv_get (l := m) (j := j) (by omega)
      rw [List.getElem?_eq_getElem hj] at this
      exact this
  · by_cases hj : l.length ≤ i ∧ i < l.length + (lBv m).length
    · obtain ⟨j, rfl⟩ := Nat.exists_eq_add_of_le hj.1
      rw [hin j (by omega)]; rfl
    · rw [World.cell?_setCells_out _ _ _ _ _ (fun _ _ => by show i < _ ∨ _ ≤ i; omega)]
      exact h.some i hi
/-- The row that grows. -/
theorem ownB_grown (w : World) (base c : Nat) (l m : List UInt8) (hb : base ≤ w.heap.size) (hc : l.length + m.length ≤ c) (hm : c ≤ maxLen) : OwnB (w.drew.alloc (.cells ((lBv l).toArray ++ (lBv m).toArray ++ Builtin.zeroCells (Value.int .u8 0).cells (c - (l.length + m.length))) 5)) base w.heap.size c (l ++ m) := by
  have hz1 : (Value.int IntKind.u8 0).cells.size = 1 := rfl
  refine ownB_row w.drew base _ 0 0 c (l ++ m) hb ?_ (by rw [List.length_append]; exact hc) hm (fun i hi => ?_) (.inr rfl)
  · simp only [Array.size_append, List.size_toArray, size_zeroCells, hz1, lBv_length]; omega
  · have hmap : (lBv l).toArray ++ (lBv m).toArray = (lBv (l ++ m)).toArray := by simp [lBv]
    rw [hmap, Array.getElem?_append_left (by rw [List.size_toArray, lBv_length]; exact hi), List.getElem?_toArray]
    exact lBv_get hi
theorem run_app {w : World} {base g cap B c2 : Nat} {A : Option Addr} {l m : List UInt8} (ty : TypeId) (h : OwnB w base g cap l) (h2 : RdB w B A m) (hbase : base ≤ w.heap.size) (hsz : l.length + m.length ≤ 140737488355328) :
    ∃ g' cap' w', (Builtin.append_ #[42, 42] ty #[.slice (some ⟨g, 0, none⟩) l.length cap, .slice A m.length c2]).run Tryz.prog w = .ok (.slice (some ⟨g', 0, none⟩) (l ++ m).length cap') w' ∧ OwnB w' base g' cap' (l ++ m) ∧ Below base w w' := by
  obtain ⟨i, hi, hz0, hz1, hz2⟩ := info_parts sinfo_byte
  have hlen : (l ++ m).length = l.length + m.length := List.length_append
  rcases h2.place with rfl | ⟨b, off, rfl, hb⟩
  · refine ⟨g, cap, w, ?_, by rw [List.append_nil]; exact h, Below.refl _ _⟩
    have hroom : l.length + 0 ≤ cap := h.len
    cases A with
    | none => simp [Builtin.append_, run_underlying sunder_bytes, sizeOf, typeInfo, hi, Builtin.lenOf, Builtin.firstCells, h.len, storeCells]
    | some a =>
      have hr := run_append_room_cells (P := Tryz.prog) w 42 ty 5 i sunder_bytes hi g 0 l.length cap a 0 c2 [] (by simp) (fun j u hj => by simp at hj) (fun u hu => by simp at hu) hroom (fun j hj => by simp at hj) (fun j hj => by simp at hj)
      rw [List.append_nil]
      exact hr
  · have hnews : ∀ j u, (lBv m)[j]? = some u → w.cell? ((⟨b, off, none⟩ : Addr).add j) = some u := fun j u hj => by
      obtain ⟨h1, rfl⟩ := lBv_at hj
      rw [Addr.add_lit]
      exact h2.cells b off rfl j h1
    by_cases hroom : l.length + m.length ≤ cap
    · have hr := run_append_room_cells (P := Tryz.prog) w 42 ty 5 i sunder_bytes hi g 0 l.length cap ⟨b, off, none⟩ m.length c2 (lBv m) (by rw [lBv_length, hz1, Nat.mul_one]) hnews (lBv_one m) hroom
        (fun j hj => by rw [hz1, Nat.mul_one, Nat.zero_add]; exact h.some _ (by rw [lBv_length] at hj; omega)) (fun j hj => by rw [hz1, Nat.mul_one, Nat.zero_add]; exact h.free _ (by rw [lBv_length] at hj; omega))
      rw [hz1, Nat.mul_one, Nat.zero_add] at hr
      exact ⟨g, cap, _, by rw [hlen]; exact hr, ownB_more h hroom, Lib.below_setCells g h.base _ _ (Below.refl _ _)⟩
    · have hr := run_append_grow (P := Tryz.prog) w 42 ty 5 i (.int .u8 0) sunder_bytes hi hz0 ⟨g, 0, none⟩ l.length cap (lBv l) (by rw [lBv_length, hz1, Nat.mul_one]) (fun j u hj => by
          obtain ⟨h1, rfl⟩ := lBv_at hj
          rw [Addr.add_lit, Nat.zero_add]
          exact h.cells j h1) ⟨b, off, none⟩ m.length c2 (lBv m) (by rw [lBv_length, hz1, Nat.mul_one]) hnews (by omega) (by omega) (growslice_fits (by omega) (by rw [hz2]; omega))
      exact ⟨_, _, _, by rw [hlen]; exact hr, ownB_grown w base _ l m hbase (grownCap_ge _ _ _ _) (grownCap_le_maxLen _ _ _ _ (by unfold maxLen; omega)), (Below.refl _ _).drew.alloc hbase _⟩
/-- append, for the walk. -/
theorem wpList_app {w : World} {ops : Array Oper} {rest : List Oper} {o : Oper} {a : Act} {Q : Exit → Act → World → Prop} (hgd : o.guard = none) (s x : Operand)
    (ho : o.op = .call { callee := .builtin .append, args := #[s, x], argTypes := #[42, 42] }) (base : Nat) (l m : List UInt8) {g cap c2 n k : Nat} {A : Option Addr}
    (hs : a.eval s = .slice (some ⟨g, 0, none⟩) n cap) (hn : n = l.length) (hx : a.eval x = .slice A k c2) (hk : k = m.length) (h1 : OwnB w base g cap l) (h2 : RdB w w.heap.size A m) (hbase : base ≤ w.heap.size) (hsz : l.length + m.length ≤ 140737488355328)
    (h : ∀ g' cap' w', OwnB w' base g' cap' (l ++ m) → Below base w w' → wpList Tryz.prog ops Q rest (a.put o.dst (.slice (some ⟨g', 0, none⟩) (l ++ m).length cap')) w') : wpList Tryz.prog ops Q (o :: rest) a w := by
  subst hn; subst hk
  obtain ⟨g', cap', w', hr, h3, h4⟩ := run_app (c2 := c2) o.type h1 h2 hbase hsz
  refine wpList_plain hgd fun K hK => ?_
  unfold Oper.wp execOp
  simp only [ho, resolve, invoke, builtin, Sem.run_bind, Sem.run_pure, Result.andThen_ok, List.map_toArray, List.map_cons, List.map_nil, hs, hx, hr]
  exact hK _ _ (h g' cap' w' h3 h4)
theorem pR_st (A : Option Addr) (l : List UInt8) : Stable (pR A l) := fun _ _ h hb => (RdB.below h hb).more hb.size
theorem below_app {w w3 : World} {o o2 : Obj} (hb : Below (w.heap.size + 1) ((w.alloc o).alloc o2) w3) : Below (w.alloc o).heap.size (w.alloc o) w3 := by
  have hs : (w.alloc o).heap.size = w.heap.size + 1 := by simp
  rw [hs]
  exact ((Below.refl _ _).alloc (by rw [hs]; exact Nat.le_refl _) _).trans hb
end Go.Proofs.YtobokaafmcfeaaaGreatDoor
namespace Go.Proofs.YtobokaafmcfeaaaGreatDoor
open Go.RowKit Go.Cal
end Go.Proofs.YtobokaafmcfeaaaGreatDoor
namespace Go.Proofs.YtobokaafmcfeaaaGreatDoor
open Go.RowKit Go.Cal
end Go.Proofs.YtobokaafmcfeaaaGreatDoor
namespace Go.Proofs.YtobokaafmcfeaaaGreatDoor
open Go.ChangeShapes Go.WideShapes Go.ChangeAt Go.RowKit Go.Cal
end Go.Proofs.YtobokaafmcfeaaaGreatDoor
namespace Go.Proofs.YtobokaafmcfeaaaGreatDoor
open Go.ChangeShapes Go.WideShapes Go.ChangeAt Go.RowKit Go.Cal Go.Maps
end Go.Proofs.YtobokaafmcfeaaaGreatDoor
namespace Go.Proofs.YtobokaafmcfeaaaGreatDoor
open Go.ChangeShapes Go.WideShapes Go.ChangeAt Go.RowKit Go.Cal
end Go.Proofs.YtobokaafmcfeaaaGreatDoor
namespace Go.Proofs.YtobokaafmcfeaaaGreatDoor
open Go.ChangeShapes Go.WideShapes Go.ChangeAt Go.RowKit Go.Cal
end Go.Proofs.YtobokaafmcfeaaaGreatDoor
namespace Go.Proofs.YtobokaafmcfeaaaGreatDoor
open Go.RowKit Go.Cal
section
variable {P : Program} {ops : Array Oper} {Q : Exit → Act → World → Prop} {md : Region.Mode} {S : World → Prop}
end
end Go.Proofs.YtobokaafmcfeaaaGreatDoor
namespace Go.Proofs.YtobokaafmcfeaaaGreatDoor
open Go.RowKit Go.Cal
theorem step_more {id : Int} {X : Nat} {O : List Nat} {l : List UInt8} (h : (stepP id X O l).err = 0) (m : List UInt8) : stepP id X O (l ++ m) = stepP id X O l := by
  cases l with
  | nil => simp [stepP] at h
  | cons c r =>
    rw [List.cons_append]
    revert h
    rw [stepP, stepP]
    split
    · intro _; rfl
    split
    · split
      · intro h; simp at h
      · rename_i h2
        intro _
        rw [if_neg (by simp; omega), List.take_append_of_le_length (by omega), List.drop_append_of_le_length (by omega), List.take_append_of_le_length (by simp; omega)]
    split
    · intro _; rfl
    split
    · intro _; rfl
    split
    · cases r with
      | nil => intro h; simp [ldS] at h
      | cons k s =>
        rw [List.cons_append, ldS, ldS]
        split
        · intro h; simp at h
        rename_i hm
        intro _
        rw [if_neg (by simp; omega), List.take_append_of_le_length (by omega)]
    · intro h; simp at h
theorem step_out (id : Int) (X : Nat) (P O : List Nat) (l : List UInt8) : stepP id X (P ++ O) l = ⟨(stepP id X O l).err, (stepP id X O l).used, (stepP id X O l).X, P ++ (stepP id X O l).O⟩ := by
  cases l with
  | nil => rfl
  | cons c r =>
    rw [stepP, stepP]
    split
    · rfl
    split
    · split <;> rfl
    split
    · rfl
    split
    · rw [List.append_assoc]
    split
    · cases r with
      | nil => rfl
      | cons k s =>
        rw [ldS, ldS]
        split
        · rfl
        split <;> rfl
    · rfl
theorem run_out (id : Int) (P : List Nat) : ∀ (n X : Nat) (O : List Nat) (l : List UInt8), runP id n X (P ++ O) l = ⟨(runP id n X O l).err, (runP id n X O l).used, (runP id n X O l).X, P ++ (runP id n X O l).O⟩
  | n, X, O, [] => by rw [runP_nil, runP_nil]
  | 0, X, O, c :: r => rfl
  | n + 1, X, O, c :: r => by
    have hs := step_out id X P O (c :: r)
    by_cases h : (stepP id X O (c :: r)).err = 0
    · rw [runP_ok (u := (stepP id X O (c :: r)).used) (X' := (stepP id X O (c :: r)).X) (O' := P ++ (stepP id X O (c :: r)).O) (by rw [hs, h]), run_out id P n]
      rw [runP_ok (n := n) (X := X) (O := O) (u := (stepP id X O (c :: r)).used) (X' := (stepP id X O (c :: r)).X) (O' := (stepP id X O (c :: r)).O) (by rw [← h])]
    · rw [runP_no (by rw [hs]; exact h), runP_no h, hs]
/-- As many rounds as there are bytes are enough. -/
theorem run_enough (id : Int) : ∀ (n m X : Nat) (O : List Nat) (l : List UInt8), l.length ≤ n → l.length ≤ m → runP id n X O l = runP id m X O l
  | n, m, X, O, [], _, _ => by rw [runP_nil, runP_nil]
  | 0, _, _, _, _ :: _, h, _ => by simp at h
  | _ + 1, 0, _, _, _ :: _, _, h => by simp at h
  | n + 1, m + 1, X, O, c :: r, h1, h2 => by
    by_cases h : (stepP id X O (c :: r)).err = 0
    · obtain ⟨u1, u2⟩ := step_used h
      have hl : ((c :: r).drop (stepP id X O (c :: r)).used).length ≤ r.length := by simp only [List.length_drop, List.length_cons] at *; omega
      have h3 : r.length + 1 ≤ n + 1 := h1
      have h4 : r.length + 1 ≤ m + 1 := h2
      have e := run_enough id n m (stepP id X O (c :: r)).X (stepP id X O (c :: r)).O ((c :: r).drop (stepP id X O (c :: r)).used) (by omega) (by omega)
      rw [runP, if_pos h, e, runP, if_pos h]
    · rw [runP_no h, runP_no h]
/-- Scripts one behind the other. -/
theorem run_join (id : Int) (m : List UInt8) : ∀ (n d X : Nat) (O : List Nat) (l : List UInt8), (runP id n X O l).err = 0 → l.length ≤ n → m.length ≤ d →
    runP id (n + d) X O (l ++ m) = ⟨(runP id d (runP id n X O l).X (runP id n X O l).O m).err, l.length + (runP id d (runP id n X O l).X (runP id n X O l).O m).used, (runP id d (runP id n X O l).X (runP id n X O l).O m).X, (runP id d (runP id n X O l).X (runP id n X O l).O m).O⟩
  | n, d, X, O, [], _, _, hm => by rw [runP_nil, List.nil_append, run_enough id (n + d) d X O m (by omega) hm]; simp
  | 0, _, _, _, _ :: _, _, h, _ => by simp at h
  | n + 1, d, X, O, c :: r, h, hl, hm => by
    by_cases h1 : (stepP id X O (c :: r)).err = 0
    · obtain ⟨u1, u2⟩ := step_used h1
      have h2 := h
      rw [runP, if_pos h1] at h2
      simp only [List.length_cons] at hl u2
      have e := run_join id m n d (stepP id X O (c :: r)).X (stepP id X O (c :: r)).O ((c :: r).drop (stepP id X O (c :: r)).used) h2 (by simp only [List.length_drop, List.length_cons]; omega) hm
      have hm1 := step_more h1 m
      rw [List.cons_append] at hm1 ⊢
      rw [show n + 1 + d = n + d + 1 by omega, runP, hm1, if_pos h1, ← List.cons_append, List.drop_append_of_le_length (by simp only [List.length_cons]; omega), e, runP, if_pos h1]
      simp only [List.length_drop, List.length_cons]
      congr 1
      omega
    · rw [runP_no h1] at h
      exact absurd h h1
end Go.Proofs.YtobokaafmcfeaaaGreatDoor
namespace Go.Proofs.YtobokaafmcfeaaaGreatDoor
open Go.RowKit Go.Cal
section
variable {w0 w w' : World} {base g rb bx mb n c X p : Nat} {id wd : Int} {B : Option Addr} {E : Nat → Array Value → TypeId → Prop} {Ov : Value} {O : List Nat}
end
end Go.Proofs.YtobokaafmcfeaaaGreatDoor
namespace Go.Proofs.YtobokaafmcfeaaaGreatDoor
open Go.RowKit Go.Cal
end Go.Proofs.YtobokaafmcfeaaaGreatDoor
namespace Go.Proofs.YtobokaafmcfeaaaGreatDoor
open Go.RowKit Go.Cal
end Go.Proofs.YtobokaafmcfeaaaGreatDoor
namespace Go.Proofs.YtobokaafmcfeaaaGreatDoor
open Go.RowKit Go.Cal
end Go.Proofs.YtobokaafmcfeaaaGreatDoor
namespace Go.Proofs.YtobokaafmcfeaaaGreatDoor
open Go.RowKit Go.Cal
end Go.Proofs.YtobokaafmcfeaaaGreatDoor
namespace Go.Proofs.YtobokaafmcfeaaaGreatDoor
open Go.RowKit Go.Cal
theorem run_clear (id : Int) (n X : Nat) (O : List Nat) (r : List UInt8) : runP id (n + 1) X O (0 :: r) = runP id (n + 1) 0 O (0 :: r) := by
  rw [runP_ok (u := 1) (X' := 0) (O' := O) (by simp [stepP]), runP_ok (u := 1) (X' := 0) (O' := O) (by simp [stepP])]
theorem joins_told {id : Int} {l m : List UInt8} (h1 : (runP id 1000 0 [] l).err = 0) (h2 : (runP id 1000 0 [] (0 :: m)).err = 0) (hl : l.length ≤ 400) (hm : m.length ≤ 400) :
    runP id 1000 0 [] (l ++ 0 :: m) = ⟨0, l.length + (m.length + 1), (runP id 1000 0 [] (0 :: m)).X, (runP id 1000 0 [] l).O ++ (runP id 1000 0 [] (0 :: m)).O⟩ := by
  have e1 : runP id 1000 0 [] l = runP id 500 0 [] l := run_enough id _ _ _ _ _ (by omega) (by omega)
  have e2 : runP id 1000 0 [] (0 :: m) = runP id 500 0 [] (0 :: m) := run_enough id _ _ _ _ _ (by rw [List.length_cons]; omega) (by rw [List.length_cons]; omega)
  rw [e1] at h1 ⊢
  rw [e2] at h2 ⊢
  have hj := run_join id (0 :: m) 500 500 0 [] l h1 (by omega) (by rw [List.length_cons]; omega)
  have hc : runP id 500 (runP id 500 0 [] l).X (runP id 500 0 [] l).O (0 :: m) = ⟨(runP id 500 0 [] (0 :: m)).err, (runP id 500 0 [] (0 :: m)).used, (runP id 500 0 [] (0 :: m)).X, (runP id 500 0 [] l).O ++ (runP id 500 0 [] (0 :: m)).O⟩ := by
    rw [run_clear id 499]
    have := run_out id (runP id 500 0 [] l).O 500 0 [] (0 :: m)
    rw [List.append_nil] at this
    exact this
  rw [hc, h2, (run_used id 500 0 [] (0 :: m)).2 h2] at hj
  exact hj
end Go.Proofs.YtobokaafmcfeaaaGreatDoor
namespace Go.Proofs.YtobokaafmcfeaaaGreatDoor
open Go.RowKit Go.Cal
theorem app_rowU {w : World} {base n m c1 : Nat} {v : Value} {A : Option Addr} {xs ys : List Nat} (ty : TypeId) (hown : w.ownsRow base 22 1 v n (lU xs)) (hx : RdU w w.heap.size A ys) (hm : ys.length = m) (hn : n + m ≤ 1000000) (hb : base ≤ w.heap.size) :
    ∃ A' n' c' w', (Builtin.append_ #[32, 32] ty #[v, .slice A m c1]).run Tryz.prog w = .ok (.slice A' n' c') w' ∧ w'.ownsRow base 22 1 (.slice A' n' c') (n + m) (lU (xs ++ ys)) ∧ w.grownBy w' v.ownBlock := by
  obtain ⟨i0, hi, hi0, hi1, hi2⟩ := info_parts info_u64
  have hap : lU xs ++ lU ys = lU (xs ++ ys) := by simp [lU]
  have hsm : n + m ≤ maxLen := by unfold maxLen; omega
  have hone : ∀ u ∈ lU ys, u.oneCell' = true := fun u hu => by
    simp only [lU, List.mem_map] at hu
    obtain ⟨x, -, rfl⟩ := hu
    rfl
  cases A with
  | none =>
    have h0 : ys = [] := by
      rcases hx.place with h | ⟨b, off, e, -⟩
      · exact h
      · cases e
    subst h0
    subst hm
    have hr : (Builtin.append_ #[32, 32] ty #[v, .slice none ([] : List Nat).length c1]).run Tryz.prog w = .ok v w := by
      rcases hown.2 with ⟨rfl, rfl⟩ | ⟨g, cap, cur, rfl, _, _, hnc, _⟩
      · simp [Builtin.append_, run_underlying sunder_u64s, sizeOf, typeInfo, hi, Builtin.lenOf, Builtin.firstCells]
      · simp [Builtin.append_, run_underlying sunder_u64s, sizeOf, typeInfo, hi, Builtin.lenOf, Builtin.firstCells, hnc, storeCells]
    have hg : w.grownBy w v.ownBlock := ⟨rfl, rfl, rfl, Nat.le_refl _, fun _ _ _ => rfl⟩
    have ho : w.ownsRow base 22 1 v (n + ([] : List Nat).length) (lU (xs ++ [])) := by rw [List.append_nil]; exact hown
    have hsh := ho.2
    rcases hsh with ⟨rfl, -⟩ | ⟨gg, cap, cur, rfl, -⟩
    · exact ⟨_, _, _, w, hr, ho, hg⟩
    · exact ⟨_, _, _, w, hr, ho, hg⟩
  | some a =>
    have hnews : ∀ j u, (lU ys)[j]? = some u → w.cell? (a.add j) = some u := fun j u hj => by
      have hjl : j < ys.length := by
        have := (List.getElem?_eq_some_iff.1 hj).1
        simpa [lU] using this
      rcases hx.place with h | ⟨b, off, e, -⟩
      · subst h; simp at hjl
      · obtain rfl := Option.some.inj e
        have h1 : w.cell? ((⟨b, off, none⟩ : Addr).add j) = some (.int .u64 ((ys.getD j 0 : Nat) : Int)) := by
          rw [Addr.add_lit]
          exact hx.cells b off rfl j hjl
        have h2 : (lU ys)[j]? = some (.int .u64 ((ys.getD j 0 : Nat) : Int)) := by
          unfold lU
          rw [List.getElem?_map, List.getD_eq_getElem?_getD, List.getElem?_eq_getElem hjl]
          rfl
        exact h1.trans (h2.symm.trans hj)
    obtain ⟨v', w', hrun, ho, hg, -⟩ := run_append_own (P := Tryz.prog) w base 32 ty 22 i0 (.int .u64 0) 1 8 sunder_u64s hi hi0 hi1 hi2 rfl (by decide) v n (lU xs) hown a m c1 (lU ys) (by simp [lU, hm]) hnews hone hsm (by omega) hb
    rw [hap] at ho
    have hsh := ho.2
    rcases hsh with ⟨rfl, -⟩ | ⟨gg, cap, cur, rfl, -⟩
    · exact ⟨_, _, _, w', hrun, ho, hg⟩
    · exact ⟨_, _, _, w', hrun, ho, hg⟩
/-- .. as a step of a region. -/
theorem step_app_rowU {ops : Array Oper} {o : Oper} {a : Act} {w : World} {K : Act → World → Prop} {Q : Exit → Act → World → Prop} {E : Prop} {base n m c1 : Nat} {v : Value} {A : Option Addr} {xs ys : List Nat}
    (hw : Region.wanted o (yielded ops a.tmps) = true) (s y : Operand) (hop : o.op = Op.call { callee := Callee.builtin Builtin.append, args := #[s, y], argTypes := #[32, 32] })
    (hs : a.eval s = v) (hy : a.eval y = .slice A m c1) (hown : w.ownsRow base 22 1 v n (lU xs)) (hx : RdU w w.heap.size A ys) (hm : ys.length = m) (hn : n + m ≤ 1000000) (hb : base ≤ w.heap.size)
    (hK : ∀ A' n' c' w', w'.ownsRow base 22 1 (.slice A' n' c') (n + m) (lU (xs ++ ys)) → w.grownBy w' v.ownBlock → K (a.put o.dst (.slice A' n' c')) w') :
    if Region.wanted o (yielded ops a.tmps) = true then Oper.wp Tryz.prog o a w K Q else E := by
  rw [if_pos hw]
  obtain ⟨A', n', c', w', hrun, r1, r2⟩ := app_rowU (c1 := c1) o.type hown hx hm hn hb
  unfold Oper.wp
  simp [execOp, hop, resolve, invoke, builtin, hs, hy, hrun, Result.andThen]
  exact hK A' n' c' w' r1 r2
end Go.Proofs.YtobokaafmcfeaaaGreatDoor
