/- A whole struct stored into a block of its own, numbers kept: a law at the operation. Conditions: none. -/
/- A whole struct stored into a block of its own, all else kept: a law at the operation. Conditions: none. -/
/- A struct with a word of noughts, stored whole: numbers kept. Conditions: none. -/
/- Four cells stored into a part of a block, all else kept: a law at the operation. Conditions: none. -/
/- How digits are written, walked: Right, joined, zeros. Condition: the table of powers reads as it is laid. -/
import Derived.Test.YtehpneojiinmdaaGreatDoorTq03
import Derived.Test.YtehpneojiinmdaaGreatDoorTq12
import Derived.Test.YtehpneojiinmdaaGreatDoorTq14
import Derived.Test.YtehpneojiinmdaaGreatDoorTq15
import Derived.Test.YtehpneojiinmdaaGreatDoorTq02
namespace Go.Proofs.YtehpneojiinmdaaGreatDoor
open Go.RowKit Go.Cal
theorem cell_setRow_other {w : World} {g b o : Nat} {cs : Array Value} (h : b ≠ g) : (w.setRow g cs).cell? ⟨b, o, none⟩ = w.cell? ⟨b, o, none⟩ := by
  unfold World.cell? World.setRow
  simp only [Array.getElem?_modify]
  rw [if_neg (fun e => h e.symm)]
theorem IsT.setRow {w : World} {v : Value} {k N g : Nat} {old cs : Array Value} {t : TypeId} (h : IsT w v k N) (hp : pBlk g old t w) (hy : ∀ x ∈ old.toList, ∀ n, x ≠ .int .u64 n) : IsT (w.setRow g cs) v k N := by
  obtain ⟨A, c, zs, h1, h2, h3⟩ := h
  refine ⟨A, c, zs, h1, ⟨?_, fun b off e j hj => ?_⟩, h3⟩
  · rw [show (w.setRow g cs).heap.size = w.heap.size by simp [World.setRow]]; exact h2.place
  · have hc := h2.cells b off e j hj
    by_cases hb : b = g
    · subst hb
      exfalso
      rw [cell_of_row w b _ _ _ _ hp] at hc
      have hm : Value.int .u64 ((zs.getD j 0 : Nat) : Int) ∈ old.toList := by
        have := Array.mem_of_getElem? hc
        simpa using this
      exact hy _ hm _ rfl
    · rw [cell_setRow_other hb]
      exact hc
theorem wpList_store_keep {P : Program} (w : World) {ops : Array Oper} {rest : List Oper} {o : Oper} {a : Act} {Q : Exit → Act → World → Prop}
    (hg : o.guard = none) (t : TypeId) (p x : Operand) (hop : o.op = Op.store t p x) (g : Nat) (cs old : Array Value) (t' : TypeId)
    (hp : a.eval p = .pointer (some ⟨g, 0, none⟩)) (hx : a.eval x = .agg cs) (hb : pBlk g old t' w)
    (hi : (P.info? t).map (·.size) = some cs.size) (ho : old.size = cs.size) (h1 : cs.all (·.oneCell') = true) (hy : ∀ x ∈ old.toList, ∀ n, x ≠ .int .u64 n)
    (hK : ∀ w' : World, pBlk g cs t' w' → Below g w w' → (∀ v k N, IsT w v k N → IsT w' v k N) → wpList P ops Q rest (a.put o.dst undef) w') :
    wpList P ops Q (o :: rest) a w :=
  wpList_plain hg fun _ hK' => wp_store_row t p x hop g cs hp hx t' old hb hi ho h1
    (hK' _ _ (hK (w.setRow g cs) (setRow_heap w g old cs t' _ hb) (below_setRow (Below.refl _ _) (Nat.le_refl _) cs) (fun _ _ _ h => h.setRow hb hy)))
end Go.Proofs.YtehpneojiinmdaaGreatDoor
namespace Go.Proofs.YtehpneojiinmdaaGreatDoor
open Go.RowKit Go.Cal
theorem wpList_store_each {P : Program} (w : World) {ops : Array Oper} {rest : List Oper} {o : Oper} {a : Act} {Q : Exit → Act → World → Prop}
    (hg : o.guard = none) (t : TypeId) (p x : Operand) (hop : o.op = Op.store t p x) (g : Nat) (cs old : Array Value) (t' : TypeId)
    (hp : a.eval p = .pointer (some ⟨g, 0, none⟩)) (hx : a.eval x = .agg cs) (hb : pBlk g old t' w)
    (hi : (P.info? t).map (·.size) = some cs.size) (ho : old.size = cs.size) (h1 : cs.all (·.oneCell') = true) (hy : ∀ x ∈ old.toList, ∀ n, x ≠ .int .u64 n)
    (hK : ∀ w' : World, pBlk g cs t' w' → Below g w w' → w'.heap.size = w.heap.size → (∀ v k N, IsT w v k N → IsT w' v k N) → (∀ h cs' t'', h ≠ g → pBlk h cs' t'' w → pBlk h cs' t'' w') → wpList P ops Q rest (a.put o.dst undef) w') :
    wpList P ops Q (o :: rest) a w :=
  wpList_plain hg fun _ hK' => wp_store_row t p x hop g cs hp hx t' old hb hi ho h1
    (hK' _ _ (hK (w.setRow g cs) (setRow_heap w g old cs t' _ hb) (below_setRow (Below.refl _ _) (Nat.le_refl _) cs) (by simp [World.setRow]) (fun _ _ _ h => h.setRow hb hy) (fun h cs' t'' hne hh => by
      unfold pBlk at hh ⊢
      rw [setRow_other w g h cs hne]; exact hh)))
/-- What stands in a cell is set there again. -/
theorem setCell_self {w : World} {g : Nat} {cs : Array Value} {t : TypeId} (h : pBlk g cs t w) (i : Nat) (v : Value) (hv : cs[i]? = some v) : w.setCell ⟨g, i, none⟩ v = w := by
  have hcs : cs.setIfInBounds i v = cs := by
    refine Array.ext_getElem? fun j => ?_
    rw [Array.getElem?_setIfInBounds]
    split
    · rename_i e
      subst e
      split
      · exact hv.symm
      · rename_i hn; rw [Array.getElem?_eq_none (by omega)]
    · rfl
  have hh : (w.setCell ⟨g, i, none⟩ v).heap = w.heap := by
    refine Array.ext_getElem? fun k => ?_
    unfold World.setCell
    simp only [Array.getElem?_modify]
    by_cases hk : g = k
    · subst hk
      rw [if_pos rfl]
      unfold pBlk at h
      rw [h]
      show some (Obj.cells (cs.setIfInBounds i v) t (0, 0)) = _
      rw [hcs]
    · rw [if_neg hk]
  unfold World.setCell at hh ⊢
  simp only at hh
  rw [hh]
theorem self4 {w : World} {g : Nat} {a b c d : Value} {t : TypeId} (h : pBlk g #[a, b, c, d] t w) : w.setCell ⟨g, 0, none⟩ a = w ∧ w.setCell ⟨g, 1, none⟩ b = w ∧ w.setCell ⟨g, 2, none⟩ c = w ∧ w.setCell ⟨g, 3, none⟩ d = w :=
  ⟨setCell_self h 0 _ rfl, setCell_self h 1 _ rfl, setCell_self h 2 _ rfl, setCell_self h 3 _ rfl⟩
theorem noU4 (b : Bool) (A : Option Addr) (n c : Nat) (x y : Int) : ∀ z ∈ (#[.bool b, .slice A n c, .int .i64 x, .int .i64 y] : Array Value).toList, ∀ n, z ≠ .int .u64 n := by simp
end Go.Proofs.YtehpneojiinmdaaGreatDoor
namespace Go.Proofs.YtehpneojiinmdaaGreatDoor
open Go.RowKit Go.Cal
theorem IsT.setRowV {w : World} {v : Value} {k N g : Nat} {cs : Array Value} {t : TypeId} {a c : Int} {b : Bool} (h : IsT w v k N) (hp : pBlk g #[.int .i64 a, .bool b, .int .u64 0, .int .i64 c] t w) : IsT (w.setRow g cs) v k N := by
  obtain ⟨A, cc, zs, h1, h2, h3, h4, h5, h6⟩ := h
  refine ⟨A, cc, zs, h1, ⟨?_, fun bb off e j hj => ?_⟩, h3, h4, h5, h6⟩
  · rw [show (w.setRow g cs).heap.size = w.heap.size by simp [World.setRow]]; exact h2.place
  · have hc := h2.cells bb off e j hj
    by_cases hb : bb = g
    · exfalso
      subst hb
      have key : ∀ i, i < zs.length → off + i = 2 ∧ zs.getD i 0 = 0 := by
        intro i hi
        have hci := h2.cells bb off e i hi
        rw [cell_of_row w bb _ _ _ _ hp] at hci
        have hlt : off + i < 4 := by
          rcases Nat.lt_or_ge (off + i) 4 with h | h
          · exact h
          · rw [Array.getElem?_eq_none (by simpa using h)] at hci; cases hci
        obtain ⟨o, ho⟩ : ∃ o, off + i = o := ⟨_, rfl⟩
        obtain ⟨z, hz⟩ : ∃ z, zs.getD i 0 = z := ⟨_, rfl⟩
        rw [ho] at hci hlt ⊢
        rw [hz] at hci ⊢
        match o, hlt, hci with
        | 0, _, hci => simp at hci
        | 1, _, hci => simp at hci
        | 2, _, hci => simp at hci; exact ⟨rfl, by omega⟩
        | 3, _, hci => simp at hci
      have hne : zs ≠ [] := by intro h0; subst h0; simp at hj
      have ht := h6.top hne
      have k1 := key (zs.length - 1) (by omega)
      rw [List.getLast_eq_getElem] at ht
      have k2 := k1.2
      rw [List.getD_eq_getElem?_getD, List.getElem?_eq_getElem (by omega)] at k2
      exact ht (by simpa using k2)
    · rw [cell_setRow_other hb]
      exact hc
/-- Four cells set one behind the other: the whole struct. -/
theorem setRow4 {w : World} {g : Nat} {o0 o1 o2 o3 : Value} {t : TypeId} (h : pBlk g #[o0, o1, o2, o3] t w) (a b c d : Value) :
    (((w.setCell ⟨g, 0, none⟩ a).setCell ⟨g, 1, none⟩ b).setCell ⟨g, 2, none⟩ c).setCell ⟨g, 3, none⟩ d = w.setRow g #[a, b, c, d] := by
  have h4 : pBlk g #[a, b, c, d] t ((((w.setCell ⟨g, 0, none⟩ a).setCell ⟨g, 1, none⟩ b).setCell ⟨g, 2, none⟩ c).setCell ⟨g, 3, none⟩ d) := pBlk.setX (pBlk.setX (pBlk.setX (pBlk.setX h 0 a) 1 b) 2 c) 3 d
  have hoth : ∀ (W : World) (i k : Nat) (v : Value), g ≠ k → (W.setCell ⟨g, i, none⟩ v).heap[k]? = W.heap[k]? := by
    intro W i k v hk
    unfold World.setCell
    simp only [Array.getElem?_modify]
    rw [if_neg hk]
  have hh : ((((w.setCell ⟨g, 0, none⟩ a).setCell ⟨g, 1, none⟩ b).setCell ⟨g, 2, none⟩ c).setCell ⟨g, 3, none⟩ d).heap = (w.setRow g #[a, b, c, d]).heap := by
    refine Array.ext_getElem? fun k => ?_
    by_cases hk : g = k
    · subst hk
      rw [setRow_heap w g _ _ t _ h]
      exact h4
    · rw [setRow_other w g k _ (fun e => hk e.symm), hoth _ _ _ _ hk, hoth _ _ _ _ hk, hoth _ _ _ _ hk, hoth _ _ _ _ hk]
  unfold World.setRow at hh ⊢
  unfold World.setCell at hh ⊢
  simp only at hh ⊢
  rw [hh]
/-- Two structs stored one behind the other. -/
theorem two_rows {w : World} {g0 g1 : Nat} {t0 t1 : TypeId} {a0 c0 : Int} {b0 : Bool} {x0 x1 x2 x3 : Value} (p0 : pBlk g0 #[.int .i64 a0, .bool b0, .int .u64 0, .int .i64 c0] t0 w) (p1 : pBlk g1 #[x0, x1, x2, x3] t1 w) (hne : g1 ≠ g0) (hy : ∀ x ∈ (#[x0, x1, x2, x3] : Array Value).toList, ∀ n, x ≠ .int .u64 n) (a b c d a' b' c' d' : Value) :
    ∃ w', (((((((w.setCell ⟨g0, 0, none⟩ a).setCell ⟨g0, 1, none⟩ b).setCell ⟨g0, 2, none⟩ c).setCell ⟨g0, 3, none⟩ d).setCell ⟨g1, 0, none⟩ a').setCell ⟨g1, 1, none⟩ b').setCell ⟨g1, 2, none⟩ c').setCell ⟨g1, 3, none⟩ d' = w' ∧
      pBlk g0 #[a, b, c, d] t0 w' ∧ pBlk g1 #[a', b', c', d'] t1 w' ∧ (∀ v k N, IsT w v k N → IsT w' v k N) ∧ (∀ B, B ≤ g0 → B ≤ g1 → Below B w w') := by
  have p1' : pBlk g1 #[x0, x1, x2, x3] t1 (w.setRow g0 #[a, b, c, d]) := by
    unfold pBlk at p1 ⊢
    rw [setRow_other w g0 g1 _ hne]; exact p1
  have e1 := setRow4 p0 a b c d
  rw [e1, setRow4 p1' a' b' c' d']
  refine ⟨_, rfl, ?_, ?_, fun v k N h => (h.setRowV p0).setRow p1' hy, fun B h0 h1 => below_setRow (below_setRow (Below.refl _ _) h0 _) h1 _⟩
  · unfold pBlk
    rw [setRow_other _ g1 g0 _ (fun e => hne e.symm), setRow_heap w g0 _ _ t0 _ p0]
  · exact setRow_heap _ g1 _ _ t1 _ p1'
end Go.Proofs.YtehpneojiinmdaaGreatDoor
namespace Go.Proofs.YtehpneojiinmdaaGreatDoor
open Go.RowKit Go.Cal
theorem noU_set {cs : Array Value} {i : Nat} {a : Value} (h : ∀ x ∈ cs.toList, ∀ n, x ≠ .int .u64 n) (ha : ∀ n, a ≠ .int .u64 n) : ∀ x ∈ (cs.setIfInBounds i a).toList, ∀ n, x ≠ .int .u64 n := by
  intro x hx
  rw [Array.toList_setIfInBounds] at hx
  rcases List.mem_or_eq_of_mem_set hx with h1 | h1
  · exact h x h1
  · subst h1; exact ha
theorem wp_store_part4 {P : Program} {o : Oper} {a : Act} {w : World} {K : Act → World → Prop} {Q : Exit → Act → World → Prop} (ty : TypeId) (x y : Operand) (ho : o.op = .store ty x y)
    (g off : Nat) (c0 c1 c2 c3 : Value) (hx : a.eval x = .pointer (some ⟨g, off, none⟩)) (hy : a.eval y = .agg #[c0, c1, c2, c3])
    (t : TypeId) (old : Array Value) (hg : pBlk g old t w) (hoff : off + 4 ≤ old.size) (hi : (P.info? ty).map (·.size) = some 4) (h1 : (#[c0, c1, c2, c3] : Array Value).all (·.oneCell') = true)
    (h : K (a.put o.dst undef) ((((w.setCell ⟨g, off, none⟩ c0).setCell ⟨g, off + 1, none⟩ c1).setCell ⟨g, off + 1 + 1, none⟩ c2).setCell ⟨g, off + 1 + 1 + 1, none⟩ c3)) : o.wp P a w K Q := by
  have hsome : ∀ j, j < [c0, c1, c2, c3].length → (w.cell? ⟨g, off + 0 + j, none⟩).isSome = true := fun j hj => by
    rw [cell_of_row w g _ _ _ _ hg, Array.getElem?_eq_getElem (by simp at hj; omega)]; rfl
  have hfree : ∀ j, j < [c0, c1, c2, c3].length → w.frozen? ⟨g, off + 0 + j, none⟩ = false := fun j hj => hg.free _
  have hst := run_storeCells_cells (P := P) g off [c0, c1, c2, c3] 0 w hsome hfree (fun v hv => (Array.all_eq_true_iff_forall_mem.1 h1) v (by simpa using hv))
  unfold Oper.wp execOp
  cases hq : P.info? ty with
  | none => simp [hq] at hi
  | some i =>
    have hs : 4 = i.size := by simp [hq] at hi; omega
    have hrun : (storeVar ty ⟨g, off, none⟩ (.agg #[c0, c1, c2, c3])).run P w = .ok () (w.setCells g (off + 0) [c0, c1, c2, c3]) := by
      simp [storeVar, sizeOf, typeInfo, hq, Value.cells, ← hs, hst]
    simp only [ho, hx, hy, Instr.storeAt, Instr.sureAddr, Sem.run_bind, Sem.run_pure, Result.andThen_ok, hrun]
    exact h
theorem wpList_store_part4 {P : Program} (w : World) {ops : Array Oper} {rest : List Oper} {o : Oper} {a : Act} {Q : Exit → Act → World → Prop}
    (hg : o.guard = none) (t : TypeId) (p x : Operand) (hop : o.op = Op.store t p x) (g off : Nat) (c0 c1 c2 c3 : Value) (old new : Array Value) (t' : TypeId)
    (hp : a.eval p = .pointer (some ⟨g, off, none⟩)) (hx : a.eval x = .agg #[c0, c1, c2, c3]) (hb : pBlk g old t' w) (hoff : off + 4 ≤ old.size)
    (hi : (P.info? t).map (·.size) = some 4) (h1 : (#[c0, c1, c2, c3] : Array Value).all (·.oneCell') = true) (hy : ∀ x ∈ old.toList, ∀ n, x ≠ .int .u64 n)
    (n0 : ∀ n, c0 ≠ .int .u64 n) (n1 : ∀ n, c1 ≠ .int .u64 n) (n2 : ∀ n, c2 ≠ .int .u64 n)
    (hnew : (((old.setIfInBounds off c0).setIfInBounds (off + 1) c1).setIfInBounds (off + 1 + 1) c2).setIfInBounds (off + 1 + 1 + 1) c3 = new)
    (hK : ∀ w' : World, pBlk g new t' w' → Below g w w' → w'.heap.size = w.heap.size → (∀ v k N, IsT w v k N → IsT w' v k N) → (∀ h cs' t'', h ≠ g → pBlk h cs' t'' w → pBlk h cs' t'' w') → wpList P ops Q rest (a.put o.dst undef) w') :
    wpList P ops Q (o :: rest) a w := by
  have q1 := pBlk.setX hb off c0
  have q2 := pBlk.setX q1 (off + 1) c1
  have q3 := pBlk.setX q2 (off + 1 + 1) c2
  have q4 := pBlk.setX q3 (off + 1 + 1 + 1) c3
  have m1 := noU_set (i := off) hy n0
  have m2 := noU_set (i := off + 1) m1 n1
  have m3 := noU_set (i := off + 1 + 1) m2 n2
  have hoth : ∀ (W : World) (i k : Nat) (v : Value), g ≠ k → (W.setCell ⟨g, i, none⟩ v).heap[k]? = W.heap[k]? := by
    intro W i k v hk
    unfold World.setCell
    simp only [Array.getElem?_modify]
    rw [if_neg hk]
  refine wpList_plain hg fun _ hK' => wp_store_part4 t p x hop g off c0 c1 c2 c3 hp hx t' old hb hoff hi h1 (hK' _ _ (hK _ (hnew ▸ q4) ?_ ?_ ?_ ?_))
  · exact ((((Below.refl _ _).setCell (p := ⟨g, off, none⟩) (Nat.le_refl _) _).setCell (p := ⟨g, off + 1, none⟩) (Nat.le_refl _) _).setCell (p := ⟨g, off + 1 + 1, none⟩) (Nat.le_refl _) _).setCell (p := ⟨g, off + 1 + 1 + 1, none⟩) (Nat.le_refl _) _
  · simp
  · intro v k N h
    exact IsT.apartX (IsT.apartX (IsT.apartX (IsT.apartX h hb hy) q1 m1) q2 m2) q3 m3
  · intro h cs' t'' hne hh
    unfold pBlk at hh ⊢
    rw [hoth _ _ _ _ (fun e => hne e.symm), hoth _ _ _ _ (fun e => hne e.symm), hoth _ _ _ _ (fun e => hne e.symm), hoth _ _ _ _ (fun e => hne e.symm)]
    exact hh
theorem three_row {w : World} {g : Nat} {t : TypeId} {b0 b1 : Bool} {x0 x1 : Option Addr} {y0 z0 y1 z1 : Nat} {c0 c1 : Int} (p0 : pBlk g #[.bool b0, .slice x0 y0 z0, .int .i64 c0] t w) :
    ∃ w', ((w.setCell ⟨g, 0, none⟩ (.bool b1)).setCell ⟨g, 1, none⟩ (.slice x1 y1 z1)).setCell ⟨g, 2, none⟩ (.int .i64 c1) = w' ∧ pBlk g #[.bool b1, .slice x1 y1 z1, .int .i64 c1] t w' ∧ (∀ v k N, IsT w v k N → IsT w' v k N) ∧ (∀ B, B ≤ g → Below B w w') := by
  have no3 : ∀ (a b c : Value), (∀ n, a ≠ .int .u64 n) → (∀ n, b ≠ .int .u64 n) → (∀ n, c ≠ .int .u64 n) → ∀ x ∈ (#[a, b, c] : Array Value).toList, ∀ n, x ≠ .int .u64 n := by
    intro a b c ha hb hc x hx
    simp at hx
    rcases hx with rfl | rfl | rfl <;> assumption
  have q1 : pBlk g #[.bool b1, .slice x0 y0 z0, .int .i64 c0] t (w.setCell ⟨g, 0, none⟩ (.bool b1)) := pBlk.setX p0 0 (.bool b1)
  have q2 : pBlk g #[.bool b1, .slice x1 y1 z1, .int .i64 c0] t ((w.setCell ⟨g, 0, none⟩ (.bool b1)).setCell ⟨g, 1, none⟩ (.slice x1 y1 z1)) := pBlk.setX q1 1 (.slice x1 y1 z1)
  have q3 : pBlk g #[.bool b1, .slice x1 y1 z1, .int .i64 c1] t (((w.setCell ⟨g, 0, none⟩ (.bool b1)).setCell ⟨g, 1, none⟩ (.slice x1 y1 z1)).setCell ⟨g, 2, none⟩ (.int .i64 c1)) := pBlk.setX q2 2 (.int .i64 c1)
  refine ⟨_, rfl, q3, fun v k N h => ?_, fun B hB => ?_⟩
  · exact IsT.apartX (IsT.apartX (IsT.apartX h p0 (no3 _ _ _ (by simp) (by simp) (by simp))) q1 (no3 _ _ _ (by simp) (by simp) (by simp))) q2 (no3 _ _ _ (by simp) (by simp) (by simp))
  · exact (((Below.refl _ _).setCell (p := ⟨g, 0, none⟩) hB _).setCell (p := ⟨g, 1, none⟩) hB _).setCell (p := ⟨g, 2, none⟩) hB _
end Go.Proofs.YtehpneojiinmdaaGreatDoor
namespace Go.Proofs.YtehpneojiinmdaaGreatDoor
open Go.RowKit Go.Cal
/-- The last digit of a numeral. -/
theorem dec_end {d : Nat} : (Lib.decDigits d).getD ((Lib.decDigits d).length - 1) 0 = UInt8.ofNat (48 + d % 10) := by
  obtain ⟨r, c, h1⟩ := snoc_of (dec_ne d)
  have h2 := numV_dec d
  have hc : isDig c = true := dec_digs d c (by rw [h1]; simp)
  unfold isDig at hc
  simp only [Bool.and_eq_true, decide_eq_true_eq] at hc
  rw [h1, numV_snoc] at h2
  rw [h1]
  have e : (r ++ [c]).getD ((r ++ [c]).length - 1) 0 = c := by simp [List.getD_eq_getElem?_getD]
  rw [e]
  refine UInt8.toNat_inj.1 ?_
  rw [UInt8.toNat_ofNat']
  omega
/-- Which digits are right, of a number of few words. -/
theorem dright_iff {N : Nat} {k : Int} (h0 : 0 < N) (hk : -5000 ≤ k ∧ k ≤ 5000) : DRight N k ↔ (Lib.decDigits N).length ≤ 2000 ∧ N % 10 ≠ 0 := by
  unfold DRight
  constructor
  · rintro (⟨h, _⟩ | ⟨_, h2, h3, _⟩)
    · omega
    · exact ⟨h3, h2⟩
  · rintro ⟨h3, h2⟩
    exact .inr ⟨h0, h2, h3, hk.1, hk.2⟩
theorem dec_bigG {N e f : Nat} (h : (Lib.decDigits N).length ≤ e) (hf : 4 * e ≤ 64 * f) : N < 18446744073709551616 ^ f := by
  have h2 := numV_lt (Lib.decDigits N) (dec_digs N)
  rw [numV_dec] at h2
  have h1 : 10 ^ (Lib.decDigits N).length ≤ 10 ^ e := Nat.pow_le_pow_right (by decide) h
  have h3 : 10 ^ e ≤ 16 ^ e := Nat.pow_le_pow_left (by decide) _
  have h4 : (16 : Nat) ^ e = 2 ^ (4 * e) := by rw [Nat.pow_mul]
  have h5 : (18446744073709551616 : Nat) ^ f = 2 ^ (64 * f) := by rw [Nat.pow_mul]
  have h6 : 2 ^ (4 * e) ≤ 2 ^ (64 * f) := Nat.pow_le_pow_right (by decide) hf
  omega
theorem dec_big {N : Nat} (h : (Lib.decDigits N).length ≤ 2000) : N < 18446744073709551616 ^ 128 := dec_bigG h (by decide)
set_option maxRecDepth 100000 in
set_option maxHeartbeats 1000000 in
theorem right_t {w : World} {v : Value} {N : Nat} (neg : Bool) (k : Int) (hT : Tab10 w) (h : IsT w v 128 N) :
    Calls Tryz.prog 82 #[.agg #[.bool neg, v, .int .i64 k]] w fun e w' => e = .returned (.bool (decide (DRight N k))) ∧ Below w.heap.size w w' := by
  have hN := h.isN
  obtain ⟨A, c, zs, rfl, rd, hc, hcm, hl, nr⟩ := h
  have hb0 := (Below.refl w.heap.size w).alloc (Nat.le_refl _) (.cells #[.bool neg, .slice A zs.length c, .int .i64 k] 81)
  by_cases h0 : zs = []
  · subst h0
    obtain rfl : N = 0 := by rw [← nr.val]; rfl
    by_cases hk : k = 0
    · subst hk
      have hd : decide (DRight 0 0) = true := by decide
      rw [hd]
      go_enter Tryz.func82, Tryz.ntmps82
      go_wp2
      go_ret
      exact ⟨rfl, hb0⟩
    · have hd : decide (DRight 0 k) = false := by
        refine decide_eq_false ?_
        rintro (⟨_, h⟩ | ⟨h, _⟩)
        · exact hk h
        · omega
      rw [hd]
      have hk' : (k == 0) = false := by simpa using hk
      go_enter Tryz.func82, Tryz.ntmps82
      go_wp2
      go_ret
      exact ⟨rfl, hb0⟩
  · have hpos := List.length_pos_iff.2 h0
    obtain ⟨b, off, rfl, hbB, hcell⟩ := rd.at (i := 0) hpos
    obtain ⟨n, hn⟩ : ∃ n, zs.length = n := ⟨_, rfl⟩
    have hlast := nr.top h0
    have hx := hcell (n - 1) (by omega)
    have hxv : zs.getD (n - 1) 0 = zs.getLast h0 := by
      rw [List.getLast_eq_getElem, List.getD_eq_getElem?_getD, List.getElem?_eq_getElem (by omega)]
      simp [hn]
    rw [hxv] at hx
    obtain ⟨x, hxx⟩ : ∃ x, zs.getLast h0 = x := ⟨_, rfl⟩
    rw [hxx] at hx hlast
    have hN0 : 0 < N := by
      have := vl_pos (b := 18446744073709551616) nr.top h0
      rw [nr.val] at this
      exact Nat.lt_of_lt_of_le (Nat.pow_pos (by decide)) this
    rw [hn] at hN hc hl hb0 ⊢
    have hx' : (w.alloc (.cells #[.bool neg, .slice (some ⟨b, off, none⟩) n c, .int .i64 k] 81)).cell? ⟨b, off + (n - 1), none⟩ = some (.int .u64 (x : Nat)) := by
      rw [World.cell?_alloc_lt _ _ _ hbB]; exact hx
    have hT' := hT.below hb0
    have hN' := hN.below hb0
    have hx0 : ((x : Int) == 0) = false := by simpa using hlast
    clear hcell hxv hxx nr rd
    by_cases hk1 : k < -5000
    · have hd : decide (DRight N k) = false := decide_eq_false (by unfold DRight; omega)
      rw [hd]
      go_enter Tryz.func82, Tryz.ntmps82
      go_wp2
      go_ret
      exact ⟨rfl, hb0⟩
    · by_cases hk2 : 5000 < k
      · have hd : decide (DRight N k) = false := decide_eq_false (by unfold DRight; omega)
        rw [hd]
        go_enter Tryz.func82, Tryz.ntmps82
        go_wp2
        go_ret
        exact ⟨rfl, hb0⟩
      · have hi := dright_iff hN0 (k := k) ⟨by omega, by omega⟩
        have htx := stext_t hT' hN' (by decide)
        rw [show (⟨(Lib.decDigits N).toArray⟩ : ByteArray) = strL (Lib.decDigits N) from rfl] at htx
        obtain ⟨S, hS⟩ : ∃ S, strL (Lib.decDigits N) = S := ⟨_, rfl⟩
        obtain ⟨z, hz⟩ : ∃ z, (Lib.decDigits N).length = z := ⟨_, rfl⟩
        have hsz : S.size = z := by rw [← hS, strL_size, hz]
        have hz0 : 0 < z := by rw [← hz]; exact List.length_pos_iff.2 (dec_ne N)
        have hge : ∀ h : z - 1 < S.size, S[z - 1] = UInt8.ofNat (48 + N % 10) := fun h => by
          subst hS
          rw [strL_get, ← hz]
          exact dec_end
        rw [hS] at htx
        rw [hz] at hi
        replace htx := Lib.hid htx
        replace hS := Lib.hid hS
        replace hz := Lib.hid hz
        by_cases hl2 : z ≤ 2000
        · by_cases h10 : N % 10 = 0
          · have hd : decide (DRight N k) = false := decide_eq_false fun h => (hi.1 h).2 h10
            rw [hd]
            rw [h10] at hge
            go_enter Tryz.func82, Tryz.ntmps82
            go_wp2_with fail
            refine htx.out.mono ?_
            rintro e w1 ⟨rfl, hb1⟩
            go_wp2
            go_ret
            exact ⟨rfl, chain hb0 hb1⟩
          · have hd : decide (DRight N k) = true := decide_eq_true (hi.2 ⟨hl2, h10⟩)
            rw [hd]
            have hne : ((48 + (N : Int) % 10) % 256 != 48) = true := by
              rw [bne_iff_ne]
              omega
            go_enter Tryz.func82, Tryz.ntmps82
            go_wp2_with fail
            refine htx.out.mono ?_
            rintro e w1 ⟨rfl, hb1⟩
            go_wp2
            go_ret
            exact ⟨rfl, chain hb0 hb1⟩
        · have hd : decide (DRight N k) = false := decide_eq_false fun h => hl2 (hi.1 h).1
          rw [hd]
          go_enter Tryz.func82, Tryz.ntmps82
          go_wp2_with fail
          refine htx.out.mono ?_
          rintro e w1 ⟨rfl, hb1⟩
          go_wp2
          go_ret
          exact ⟨rfl, chain hb0 hb1⟩
theorem zeros_any (n : Int) (h0 : 0 ≤ n) (h1 : n ≤ 100000) (w : World) :
    Calls Tryz.prog 85 #[.int .i64 n] w fun e w' => e = .returned (.string (strL (List.replicate n.toNat 48))) ∧ Below w.heap.size w w' := by
  obtain ⟨c, rfl⟩ := Int.eq_ofNat_of_zero_le h0
  have hrep := Lib.hid (Tryz.strings_Repeat ⟨#[48]⟩ c w (by omega) (by show 1 * _ ≤ _; omega))
  have he : (⟨(Lib.repeatL [48] c).toArray⟩ : ByteArray) = strL (List.replicate c 48) := by rw [repeat_one]; rfl
  go_enter Tryz.func85, Tryz.ntmps85
  go_wp2_with fail
  refine hrep.out.mono ?_
  rintro e w1 ⟨rfl, hb⟩
  go_wp2
  go_ret
  refine ⟨?_, hb⟩
  rw [Int.toNat_natCast, ← he]
  rfl
theorem info_ts : (Tryz.prog.info? 9).map (fun i => (i.zero, i.size, i.bytes)) = some (some (.string ⟨#[]⟩), 1, 16) := by kernel_rfl
theorem under_tss : Tryz.prog.underlying 178 = some (.slice 9) := by kernel_rfl
theorem join_flat (l : List (List UInt8)) : (⟨(Lib.join ((l.map strL).map (·.data.toList)) (⟨#[]⟩ : ByteArray).data.toList).toArray⟩ : ByteArray) = strL l.flatten := by
  have h1 : (l.map strL).map (·.data.toList) = l := by
    rw [List.map_map]
    refine (List.map_congr_left fun x _ => ?_).trans (List.map_id l)
    rfl
  have h2 : ∀ l : List (List UInt8), Lib.join l [] = l.flatten := by
    intro l
    match l with
    | [] => rfl
    | x :: r =>
      rw [Lib.join_cons, Lib.joinTail]
      have : (r.map fun x => [] ++ x) = r := by simp
      simp
  rw [h1]
  show (⟨(Lib.join l []).toArray⟩ : ByteArray) = _
  rw [h2]
  rfl
/-- The join of texts that stand in a row. -/
theorem join_row {w : World} {b n c : Nat} {l : List (List UInt8)} (hn : l.length = n) (hc : n ≤ c) (hn2 : n ≤ 100) (hb : b < w.heap.size) (hs : l.flatten.length ≤ 1000000) (hcells : ∀ j x, l[j]? = some x → w.cell? ⟨b, j, none⟩ = some (.string (strL x))) :
    Calls Tryz.prog 133 #[.slice (some ⟨b, 0, none⟩) n c, .string ⟨#[]⟩] w fun e w' => e = .returned (.string (strL l.flatten)) ∧ Below w.heap.size w w' := by
  subst hn
  have h := Tryz.strings_Join b 0 c (l.map strL) ⟨#[]⟩ w (fun j x hj => by
    rw [List.getElem?_map] at hj
    obtain ⟨y, hy, rfl⟩ := Option.map_eq_some_iff.1 hj
    rw [Nat.zero_add]
    exact hcells j y hy) hb (by rw [List.length_map]; omega) (by rw [List.length_map]; exact hc) (by
      have e := congrArg ByteArray.size (join_flat l)
      rw [strL_size] at e
      have e2 : (Lib.join ((l.map strL).map (·.data.toList)) (⟨#[]⟩ : ByteArray).data.toList).length = l.flatten.length := by
        rw [← e]
        show _ = (List.toArray _).size
        rw [List.size_toArray]
      rw [e2]; omega)
  rw [List.length_map, join_flat] at h
  exact h
set_option maxRecDepth 100000 in
set_option maxHeartbeats 1000000 in
theorem joined_any (neg : Bool) {w : World} {b n : Nat} {l : List (List UInt8)} (hn : l.length = n) (hn0 : 0 < n) (hn2 : n ≤ 10) (hb : b < w.heap.size) (hs : l.flatten.length ≤ 100000) (hcells : ∀ j x, l[j]? = some x → w.cell? ⟨b, j, none⟩ = some (.string (strL x))) :
    Calls Tryz.prog 83 #[.bool neg, .slice (some ⟨b, 0, none⟩) n n] w fun e w' => e = .returned (.string (strL ((if neg = true then [45] else []) ++ l.flatten))) ∧ Below w.heap.size w w' := by
  have hj := fun (w' : World) (hbw : Below w.heap.size w w') => join_row (w := w') (c := n) hn (Nat.le_refl _) (by omega) (Nat.lt_of_lt_of_le hb hbw.size) (by omega) (fun j x hj => (hbw.cell (p := ⟨b, j, none⟩) hb).trans (hcells j x hj))
  replace hj := Lib.hid hj
  cases neg
  · rw [if_neg (by decide), List.nil_append]
    go_enter Tryz.func83, Tryz.ntmps83
    go_wp2_with fail
    refine (hj.out _ (Below.refl _ _)).mono ?_
    rintro e w1 ⟨rfl, hb1⟩
    go_wp2
    go_ret
    exact ⟨rfl, hb1⟩
  · obtain ⟨i0, hi, hz0, hz1, hz2⟩ := info_parts info_ts
    rw [if_pos rfl]
    have hl1 : ([45] :: l).length = 1 + n := by rw [List.length_cons, hn, Nat.add_comm]
    go_enter Tryz.func83, Tryz.ntmps83
    go_wp2_with (at_builtin; refine wpList_append_grows _ rfl _ _ 178 rfl 9 i0 (.string ⟨#[]⟩) 1 16 under_tss hi hz0 hz1 hz2 rfl (by decide) (some ⟨w.heap.size, 0, none⟩) 1 1 [.string ⟨#[45]⟩] rfl (fun h => by cases h) rfl ?hold ⟨b, 0, none⟩ n n (l.map fun x => .string (strL x)) rfl ?c1 ?c2 ?c3 ?c4 ?c5 ?c6 ?_)
    case hold =>
      intro b' e j u hj
      injection e with e
      subst e
      match j, hj with
      | 0, hj =>
        injection hj with hj
        subst hj
        rw [Addr.add_lit]
        simp
      | j + 1, hj => simp at hj
    case c1 => rw [List.length_map, hn, Nat.mul_one]
    case c2 =>
      intro j u hj
      rw [List.getElem?_map] at hj
      obtain ⟨x, hx, rfl⟩ := Option.map_eq_some_iff.1 hj
      rw [Addr.add_lit, Nat.zero_add, World.cell?_alloc_lt _ _ _ hb]
      exact hcells j x hx
    case c3 =>
      intro u hu
      simp only [List.mem_map] at hu
      obtain ⟨x, _, rfl⟩ := hu
      rfl
    case c4 => omega
    case c5 => unfold maxLen; omega
    case c6 => omega
    intro v' w1 hown hgr
    obtain ⟨_, ⟨_, h1⟩ | ⟨g, cap, cur, rfl, hg, hw, hnc, hm, hs', ht⟩⟩ := hown
    · omega
    · have hcs : ∀ j x, ([45] :: l)[j]? = some x → w1.cell? ⟨g, j, none⟩ = some (.string (strL x)) := by
        intro j x hj
        have hjl : j < 1 + n := by rw [← hl1]; exact (List.getElem?_eq_some_iff.1 hj).1
        have e3 : cur.toList[j]? = some (.string (strL x)) := by
          have e4 : (([45] :: l).map fun x => Value.string (strL x))[j]? = some (.string (strL x)) := by rw [List.getElem?_map, hj]; rfl
          have e5 : (Value.string ⟨#[45]⟩ :: l.map fun x => Value.string (strL x)) = (([45] :: l).map fun x => Value.string (strL x)) := rfl
          rw [← e4, ← e5, ← ht, List.getElem?_take_of_lt (by omega)]
        simp [World.cell?, hw, ← Array.getElem?_toList, e3]
      have hlt := (Array.getElem?_eq_some_iff.1 hw).1
      have hbw : Below w.heap.size w w1 := ((Below.refl _ _).alloc (Nat.le_refl _) _).grown hgr (by simp) (fun j hj => by cases hj)
      have hjr := Lib.hid (join_row (w := w1) hl1 hnc (by omega) hlt (by rw [List.flatten_cons, List.length_append, List.length_cons, List.length_nil]; omega) hcs)
      clear hcs hw ht hgr
      go_wp2_with fail
      refine hjr.out.mono ?_
      rintro e w2 ⟨rfl, hb2⟩
      go_wp2
      go_ret
      exact ⟨rfl, chain hbw hb2⟩
theorem cell_lt {w : World} {a : Addr} {v : Value} (h : w.cell? a = some v) : a.block < w.heap.size := by
  rcases Nat.lt_or_ge a.block w.heap.size with h1 | h1
  · exact h1
  · unfold World.cell? at h
    rw [Array.getElem?_eq_none (by omega)] at h
    cases h
/-- The join of texts that the call itself lays. -/
theorem joined_lit (neg : Bool) (w : World) (l : List (List UInt8)) (C : Array Value) (hC : C = (l.map fun x => Value.string (strL x)).toArray) (n : Nat) (hn : l.length = n) (hn0 : 0 < n) (hn2 : n ≤ 10) (hs : l.flatten.length ≤ 100000) (t : List UInt8) (ht : (if neg = true then [45] else []) ++ l.flatten = t) :
    Calls Tryz.prog 83 #[.bool neg, .slice (some ⟨w.heap.size, 0, none⟩) n n] (w.alloc (.cells C 9)) fun e w' => e = .returned (.string (strL t)) ∧ Below w.heap.size w w' := by
  subst hC
  subst ht
  refine (joined_any neg (w := w.alloc (.cells _ 9)) hn hn0 hn2 (by simp) hs fun j x hj => ?_).mono ?_
  · rw [World.cell?_alloc_new, List.getElem?_toArray, List.getElem?_map, hj]
    rfl
  · rintro e w' ⟨rfl, hb⟩
    exact ⟨rfl, chain ((Below.refl _ _).alloc (Nat.le_refl _) _) hb⟩
theorem joined_litD (neg : Bool) (w : World) (l : List (List UInt8)) (C : Array Value) (hC : C = (l.map fun x => Value.string (strL x)).toArray) (n : Nat) (hn : l.length = n) (hn0 : 0 < n) (hn2 : n ≤ 10) (hs : l.flatten.length ≤ 100000) (t : List UInt8) (ht : (if neg = true then [45] else []) ++ l.flatten = t) :
    Calls Tryz.prog 83 #[.bool neg, .slice (some ⟨w.heap.size, 0, none⟩) n n] (w.alloc (.cells C 9)).drew fun e w' => e = .returned (.string (strL t)) ∧ Below w.heap.size w w' := by
  subst hC
  subst ht
  refine (joined_any neg (w := (w.alloc (.cells _ 9)).drew) hn hn0 hn2 (by show w.heap.size < (w.alloc _).heap.size; simp) hs fun j x hj => ?_).mono ?_
  · show (w.alloc _).cell? _ = _
    rw [World.cell?_alloc_new, List.getElem?_toArray, List.getElem?_map, hj]
    rfl
  · rintro e w' ⟨rfl, hb⟩
    exact ⟨rfl, chain ((Below.refl _ _).alloc (Nat.le_refl _) _).drew hb⟩
end Go.Proofs.YtehpneojiinmdaaGreatDoor
