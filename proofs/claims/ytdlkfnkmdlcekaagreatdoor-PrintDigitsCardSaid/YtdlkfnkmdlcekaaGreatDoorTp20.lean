/- A whole struct stored into a block of its own, numbers kept: a law at the operation. Conditions: none. -/
/- A whole struct stored into a block of its own, all else kept: a law at the operation. Conditions: none. -/
/- A struct with a word of noughts, stored whole: numbers kept. Conditions: none. -/
/- Four cells stored into a part of a block, all else kept: a law at the operation. Conditions: none. -/
import Derived.Test.YtdlkfnkmdlcekaaGreatDoorTp04
import Derived.Test.YtdlkfnkmdlcekaaGreatDoorTp14
import Derived.Test.YtdlkfnkmdlcekaaGreatDoorTp16
namespace Go.Proofs.YtdlkfnkmdlcekaaGreatDoor
open Go.RowKit Go.Cal
theorem cell_setRow_other {w : World} {g b o : Nat} {cs : Array Value} (h : b ≠ g) : (w.setRow g cs).cell? ⟨b, o, none⟩ = w.cell? ⟨b, o, none⟩ := by
  unfold World.cell? World.setRow
  simp only [Array.getElem?_modify]
  rw [if_neg (fun e => h e.symm)]
theorem IsT.setRow {w : World} {v : Value} {k N g : Nat} {old cs : Array Value} {t : TypeId} (h : IsT w v k N) (hp : pBlk g old t w) (hy : ∀ x ∈ old.toList, ∀ n, x ≠ .int .u64 n) : IsT (w.setRow g cs) v k N := by
  obtain ⟨A, c, zs, h1, h2, h3⟩ := h
  refine ⟨A, c, zs, h1, ⟨?_, fun b off e j hj => ?_⟩, h3⟩
  · rw [show (w.setRow g cs).heap.size = w.heap.size by simp [World.setRow]]; exact h2.place
  · have hc := h2.cells b off e j hj
    by_cases hb : b = g
    · subst hb
      exfalso
      rw [cell_of_row w b _ _ _ _ hp] at hc
      have hm : Value.int .u64 ((zs.getD j 0 : Nat) : Int) ∈ old.toList := by
        have := Array.mem_of_getElem? hc
        simpa using this
      exact hy _ hm _ rfl
    · rw [cell_setRow_other hb]
      exact hc
theorem wpList_store_keep {P : Program} (w : World) {ops : Array Oper} {rest : List Oper} {o : Oper} {a : Act} {Q : Exit → Act → World → Prop}
    (hg : o.guard = none) (t : TypeId) (p x : Operand) (hop : o.op = Op.store t p x) (g : Nat) (cs old : Array Value) (t' : TypeId)
    (hp : a.eval p = .pointer (some ⟨g, 0, none⟩)) (hx : a.eval x = .agg cs) (hb : pBlk g old t' w)
    (hi : (P.info? t).map (·.size) = some cs.size) (ho : old.size = cs.size) (h1 : cs.all (·.oneCell') = true) (hy : ∀ x ∈ old.toList, ∀ n, x ≠ .int .u64 n)
    (hK : ∀ w' : World, pBlk g cs t' w' → Below g w w' → (∀ v k N, IsT w v k N → IsT w' v k N) → wpList P ops Q rest (a.put o.dst undef) w') :
    wpList P ops Q (o :: rest) a w :=
  wpList_plain hg fun _ hK' => wp_store_row t p x hop g cs hp hx t' old hb hi ho h1
    (hK' _ _ (hK (w.setRow g cs) (setRow_heap w g old cs t' _ hb) (below_setRow (Below.refl _ _) (Nat.le_refl _) cs) (fun _ _ _ h => h.setRow hb hy)))
end Go.Proofs.YtdlkfnkmdlcekaaGreatDoor
namespace Go.Proofs.YtdlkfnkmdlcekaaGreatDoor
open Go.RowKit Go.Cal
theorem wpList_store_each {P : Program} (w : World) {ops : Array Oper} {rest : List Oper} {o : Oper} {a : Act} {Q : Exit → Act → World → Prop}
    (hg : o.guard = none) (t : TypeId) (p x : Operand) (hop : o.op = Op.store t p x) (g : Nat) (cs old : Array Value) (t' : TypeId)
    (hp : a.eval p = .pointer (some ⟨g, 0, none⟩)) (hx : a.eval x = .agg cs) (hb : pBlk g old t' w)
    (hi : (P.info? t).map (·.size) = some cs.size) (ho : old.size = cs.size) (h1 : cs.all (·.oneCell') = true) (hy : ∀ x ∈ old.toList, ∀ n, x ≠ .int .u64 n)
    (hK : ∀ w' : World, pBlk g cs t' w' → Below g w w' → w'.heap.size = w.heap.size → (∀ v k N, IsT w v k N → IsT w' v k N) → (∀ h cs' t'', h ≠ g → pBlk h cs' t'' w → pBlk h cs' t'' w') → wpList P ops Q rest (a.put o.dst undef) w') :
    wpList P ops Q (o :: rest) a w :=
  wpList_plain hg fun _ hK' => wp_store_row t p x hop g cs hp hx t' old hb hi ho h1
    (hK' _ _ (hK (w.setRow g cs) (setRow_heap w g old cs t' _ hb) (below_setRow (Below.refl _ _) (Nat.le_refl _) cs) (by simp [World.setRow]) (fun _ _ _ h => h.setRow hb hy) (fun h cs' t'' hne hh => by
      unfold pBlk at hh ⊢
      rw [setRow_other w g h cs hne]; exact hh)))
/-- What stands in a cell is set there again. -/
theorem setCell_self {w : World} {g : Nat} {cs : Array Value} {t : TypeId} (h : pBlk g cs t w) (i : Nat) (v : Value) (hv : cs[i]? = some v) : w.setCell ⟨g, i, none⟩ v = w := by
  have hcs : cs.setIfInBounds i v = cs := by
    refine Array.ext_getElem? fun j => ?_
    rw [Array.getElem?_setIfInBounds]
    split
    · rename_i e
      subst e
      split
      · exact hv.symm
      · rename_i hn; rw [Array.getElem?_eq_none (by omega)]
    · rfl
  have hh : (w.setCell ⟨g, i, none⟩ v).heap = w.heap := by
    refine Array.ext_getElem? fun k => ?_
    unfold World.setCell
    simp only [Array.getElem?_modify]
    by_cases hk : g = k
    · subst hk
      rw [if_pos rfl]
      unfold pBlk at h
      rw [h]
      show some (Obj.cells (cs.setIfInBounds i v) t (0, 0)) = _
      rw [hcs]
    · rw [if_neg hk]
  unfold World.setCell at hh ⊢
  simp only at hh
  rw [hh]
theorem self4 {w : World} {g : Nat} {a b c d : Value} {t : TypeId} (h : pBlk g #[a, b, c, d] t w) : w.setCell ⟨g, 0, none⟩ a = w ∧ w.setCell ⟨g, 1, none⟩ b = w ∧ w.setCell ⟨g, 2, none⟩ c = w ∧ w.setCell ⟨g, 3, none⟩ d = w :=
  ⟨setCell_self h 0 _ rfl, setCell_self h 1 _ rfl, setCell_self h 2 _ rfl, setCell_self h 3 _ rfl⟩
theorem noU4 (b : Bool) (A : Option Addr) (n c : Nat) (x y : Int) : ∀ z ∈ (#[.bool b, .slice A n c, .int .i64 x, .int .i64 y] : Array Value).toList, ∀ n, z ≠ .int .u64 n := by simp
end Go.Proofs.YtdlkfnkmdlcekaaGreatDoor
namespace Go.Proofs.YtdlkfnkmdlcekaaGreatDoor
open Go.RowKit Go.Cal
theorem IsT.setRowV {w : World} {v : Value} {k N g : Nat} {cs : Array Value} {t : TypeId} {a c : Int} {b : Bool} (h : IsT w v k N) (hp : pBlk g #[.int .i64 a, .bool b, .int .u64 0, .int .i64 c] t w) : IsT (w.setRow g cs) v k N := by
  obtain ⟨A, cc, zs, h1, h2, h3, h4, h5, h6⟩ := h
  refine ⟨A, cc, zs, h1, ⟨?_, fun bb off e j hj => ?_⟩, h3, h4, h5, h6⟩
  · rw [show (w.setRow g cs).heap.size = w.heap.size by simp [World.setRow]]; exact h2.place
  · have hc := h2.cells bb off e j hj
    by_cases hb : bb = g
    · exfalso
      subst hb
      have key : ∀ i, i < zs.length → off + i = 2 ∧ zs.getD i 0 = 0 := by
        intro i hi
        have hci := h2.cells bb off e i hi
        rw [cell_of_row w bb _ _ _ _ hp] at hci
        have hlt : off + i < 4 := by
          rcases Nat.lt_or_ge (off + i) 4 with h | h
          · exact h
          · rw [Array.getElem?_eq_none (by simpa using h)] at hci; cases hci
        obtain ⟨o, ho⟩ : ∃ o, off + i = o := ⟨_, rfl⟩
        obtain ⟨z, hz⟩ : ∃ z, zs.getD i 0 = z := ⟨_, rfl⟩
        rw [ho] at hci hlt ⊢
        rw [hz] at hci ⊢
        match o, hlt, hci with
        | 0, _, hci => simp at hci
        | 1, _, hci => simp at hci
        | 2, _, hci => simp at hci; exact ⟨rfl, by omega⟩
        | 3, _, hci => simp at hci
      have hne : zs ≠ [] := by intro h0; subst h0; simp at hj
      have ht := h6.top hne
      have k1 := key (zs.length - 1) (by omega)
      rw [List.getLast_eq_getElem] at ht
      have k2 := k1.2
      rw [List.getD_eq_getElem?_getD, List.getElem?_eq_getElem (by omega)] at k2
      exact ht (by simpa using k2)
    · rw [cell_setRow_other hb]
      exact hc
/-- Four cells set one behind the other: the whole struct. -/
theorem setRow4 {w : World} {g : Nat} {o0 o1 o2 o3 : Value} {t : TypeId} (h : pBlk g #[o0, o1, o2, o3] t w) (a b c d : Value) :
    (((w.setCell ⟨g, 0, none⟩ a).setCell ⟨g, 1, none⟩ b).setCell ⟨g, 2, none⟩ c).setCell ⟨g, 3, none⟩ d = w.setRow g #[a, b, c, d] := by
  have h4 : pBlk g #[a, b, c, d] t ((((w.setCell ⟨g, 0, none⟩ a).setCell ⟨g, 1, none⟩ b).setCell ⟨g, 2, none⟩ c).setCell ⟨g, 3, none⟩ d) := pBlk.setX (pBlk.setX (pBlk.setX (pBlk.setX h 0 a) 1 b) 2 c) 3 d
  have hoth : ∀ (W : World) (i k : Nat) (v : Value), g ≠ k → (W.setCell ⟨g, i, none⟩ v).heap[k]? = W.heap[k]? := by
    intro W i k v hk
    unfold World.setCell
    simp only [Array.getElem?_modify]
    rw [if_neg hk]
  have hh : ((((w.setCell ⟨g, 0, none⟩ a).setCell ⟨g, 1, none⟩ b).setCell ⟨g, 2, none⟩ c).setCell ⟨g, 3, none⟩ d).heap = (w.setRow g #[a, b, c, d]).heap := by
    refine Array.ext_getElem? fun k => ?_
    by_cases hk : g = k
    · subst hk
      rw [setRow_heap w g _ _ t _ h]
      exact h4
    · rw [setRow_other w g k _ (fun e => hk e.symm), hoth _ _ _ _ hk, hoth _ _ _ _ hk, hoth _ _ _ _ hk, hoth _ _ _ _ hk]
  unfold World.setRow at hh ⊢
  unfold World.setCell at hh ⊢
  simp only at hh ⊢
  rw [hh]
/-- Two structs stored one behind the other. -/
theorem two_rows {w : World} {g0 g1 : Nat} {t0 t1 : TypeId} {a0 c0 : Int} {b0 : Bool} {x0 x1 x2 x3 : Value} (p0 : pBlk g0 #[.int .i64 a0, .bool b0, .int .u64 0, .int .i64 c0] t0 w) (p1 : pBlk g1 #[x0, x1, x2, x3] t1 w) (hne : g1 ≠ g0) (hy : ∀ x ∈ (#[x0, x1, x2, x3] : Array Value).toList, ∀ n, x ≠ .int .u64 n) (a b c d a' b' c' d' : Value) :
    ∃ w', (((((((w.setCell ⟨g0, 0, none⟩ a).setCell ⟨g0, 1, none⟩ b).setCell ⟨g0, 2, none⟩ c).setCell ⟨g0, 3, none⟩ d).setCell ⟨g1, 0, none⟩ a').setCell ⟨g1, 1, none⟩ b').setCell ⟨g1, 2, none⟩ c').setCell ⟨g1, 3, none⟩ d' = w' ∧
      pBlk g0 #[a, b, c, d] t0 w' ∧ pBlk g1 #[a', b', c', d'] t1 w' ∧ (∀ v k N, IsT w v k N → IsT w' v k N) ∧ (∀ B, B ≤ g0 → B ≤ g1 → Below B w w') := by
  have p1' : pBlk g1 #[x0, x1, x2, x3] t1 (w.setRow g0 #[a, b, c, d]) := by
    unfold pBlk at p1 ⊢
    rw [setRow_other w g0 g1 _ hne]; exact p1
  have e1 := setRow4 p0 a b c d
  rw [e1, setRow4 p1' a' b' c' d']
  refine ⟨_, rfl, ?_, ?_, fun v k N h => (h.setRowV p0).setRow p1' hy, fun B h0 h1 => below_setRow (below_setRow (Below.refl _ _) h0 _) h1 _⟩
  · unfold pBlk
    rw [setRow_other _ g1 g0 _ (fun e => hne e.symm), setRow_heap w g0 _ _ t0 _ p0]
  · exact setRow_heap _ g1 _ _ t1 _ p1'
end Go.Proofs.YtdlkfnkmdlcekaaGreatDoor
namespace Go.Proofs.YtdlkfnkmdlcekaaGreatDoor
open Go.RowKit Go.Cal
theorem noU_set {cs : Array Value} {i : Nat} {a : Value} (h : ∀ x ∈ cs.toList, ∀ n, x ≠ .int .u64 n) (ha : ∀ n, a ≠ .int .u64 n) : ∀ x ∈ (cs.setIfInBounds i a).toList, ∀ n, x ≠ .int .u64 n := by
  intro x hx
  rw [Array.toList_setIfInBounds] at hx
  rcases List.mem_or_eq_of_mem_set hx with h1 | h1
  · exact h x h1
  · subst h1; exact ha
theorem wp_store_part4 {P : Program} {o : Oper} {a : Act} {w : World} {K : Act → World → Prop} {Q : Exit → Act → World → Prop} (ty : TypeId) (x y : Operand) (ho : o.op = .store ty x y)
    (g off : Nat) (c0 c1 c2 c3 : Value) (hx : a.eval x = .pointer (some ⟨g, off, none⟩)) (hy : a.eval y = .agg #[c0, c1, c2, c3])
    (t : TypeId) (old : Array Value) (hg : pBlk g old t w) (hoff : off + 4 ≤ old.size) (hi : (P.info? ty).map (·.size) = some 4) (h1 : (#[c0, c1, c2, c3] : Array Value).all (·.oneCell') = true)
    (h : K (a.put o.dst undef) ((((w.setCell ⟨g, off, none⟩ c0).setCell ⟨g, off + 1, none⟩ c1).setCell ⟨g, off + 1 + 1, none⟩ c2).setCell ⟨g, off + 1 + 1 + 1, none⟩ c3)) : o.wp P a w K Q := by
  have hsome : ∀ j, j < [c0, c1, c2, c3].length → (w.cell? ⟨g, off + 0 + j, none⟩).isSome = true := fun j hj => by
    rw [cell_of_row w g _ _ _ _ hg, Array.getElem?_eq_getElem (by simp at hj; omega)]; rfl
  have hfree : ∀ j, j < [c0, c1, c2, c3].length → w.frozen? ⟨g, off + 0 + j, none⟩ = false := fun j hj => hg.free _
  have hst := run_storeCells_cells (P := P) g off [c0, c1, c2, c3] 0 w hsome hfree (fun v hv => (Array.all_eq_true_iff_forall_mem.1 h1) v (by simpa using hv))
  unfold Oper.wp execOp
  cases hq : P.info? ty with
  | none => simp [hq] at hi
  | some i =>
    have hs : 4 = i.size := by simp [hq] at hi; omega
    have hrun : (storeVar ty ⟨g, off, none⟩ (.agg #[c0, c1, c2, c3])).run P w = .ok () (w.setCells g (off + 0) [c0, c1, c2, c3]) := by
      simp [storeVar, sizeOf, typeInfo, hq, Value.cells, ← hs, hst]
    simp only [ho, hx, hy, Instr.storeAt, Instr.sureAddr, Sem.run_bind, Sem.run_pure, Result.andThen_ok, hrun]
    exact h
theorem wpList_store_part4 {P : Program} (w : World) {ops : Array Oper} {rest : List Oper} {o : Oper} {a : Act} {Q : Exit → Act → World → Prop}
    (hg : o.guard = none) (t : TypeId) (p x : Operand) (hop : o.op = Op.store t p x) (g off : Nat) (c0 c1 c2 c3 : Value) (old new : Array Value) (t' : TypeId)
    (hp : a.eval p = .pointer (some ⟨g, off, none⟩)) (hx : a.eval x = .agg #[c0, c1, c2, c3]) (hb : pBlk g old t' w) (hoff : off + 4 ≤ old.size)
    (hi : (P.info? t).map (·.size) = some 4) (h1 : (#[c0, c1, c2, c3] : Array Value).all (·.oneCell') = true) (hy : ∀ x ∈ old.toList, ∀ n, x ≠ .int .u64 n)
    (n0 : ∀ n, c0 ≠ .int .u64 n) (n1 : ∀ n, c1 ≠ .int .u64 n) (n2 : ∀ n, c2 ≠ .int .u64 n)
    (hnew : (((old.setIfInBounds off c0).setIfInBounds (off + 1) c1).setIfInBounds (off + 1 + 1) c2).setIfInBounds (off + 1 + 1 + 1) c3 = new)
    (hK : ∀ w' : World, pBlk g new t' w' → Below g w w' → w'.heap.size = w.heap.size → (∀ v k N, IsT w v k N → IsT w' v k N) → (∀ h cs' t'', h ≠ g → pBlk h cs' t'' w → pBlk h cs' t'' w') → wpList P ops Q rest (a.put o.dst undef) w') :
    wpList P ops Q (o :: rest) a w := by
  have q1 := pBlk.setX hb off c0
  have q2 := pBlk.setX q1 (off + 1) c1
  have q3 := pBlk.setX q2 (off + 1 + 1) c2
  have q4 := pBlk.setX q3 (off + 1 + 1 + 1) c3
  have m1 := noU_set (i := off) hy n0
  have m2 := noU_set (i := off + 1) m1 n1
  have m3 := noU_set (i := off + 1 + 1) m2 n2
  have hoth : ∀ (W : World) (i k : Nat) (v : Value), g ≠ k → (W.setCell ⟨g, i, none⟩ v).heap[k]? = W.heap[k]? := by
    intro W i k v hk
    unfold World.setCell
    simp only [Array.getElem?_modify]
    rw [if_neg hk]
  refine wpList_plain hg fun _ hK' => wp_store_part4 t p x hop g off c0 c1 c2 c3 hp hx t' old hb hoff hi h1 (hK' _ _ (hK _ (hnew ▸ q4) ?_ ?_ ?_ ?_))
  · exact ((((Below.refl _ _).setCell (p := ⟨g, off, none⟩) (Nat.le_refl _) _).setCell (p := ⟨g, off + 1, none⟩) (Nat.le_refl _) _).setCell (p := ⟨g, off + 1 + 1, none⟩) (Nat.le_refl _) _).setCell (p := ⟨g, off + 1 + 1 + 1, none⟩) (Nat.le_refl _) _
  · simp
  · intro v k N h
    exact IsT.apartX (IsT.apartX (IsT.apartX (IsT.apartX h hb hy) q1 m1) q2 m2) q3 m3
  · intro h cs' t'' hne hh
    unfold pBlk at hh ⊢
    rw [hoth _ _ _ _ (fun e => hne e.symm), hoth _ _ _ _ (fun e => hne e.symm), hoth _ _ _ _ (fun e => hne e.symm), hoth _ _ _ _ (fun e => hne e.symm)]
    exact hh
theorem three_row {w : World} {g : Nat} {t : TypeId} {b0 b1 : Bool} {x0 x1 : Option Addr} {y0 z0 y1 z1 : Nat} {c0 c1 : Int} (p0 : pBlk g #[.bool b0, .slice x0 y0 z0, .int .i64 c0] t w) :
    ∃ w', ((w.setCell ⟨g, 0, none⟩ (.bool b1)).setCell ⟨g, 1, none⟩ (.slice x1 y1 z1)).setCell ⟨g, 2, none⟩ (.int .i64 c1) = w' ∧ pBlk g #[.bool b1, .slice x1 y1 z1, .int .i64 c1] t w' ∧ (∀ v k N, IsT w v k N → IsT w' v k N) ∧ (∀ B, B ≤ g → Below B w w') := by
  have no3 : ∀ (a b c : Value), (∀ n, a ≠ .int .u64 n) → (∀ n, b ≠ .int .u64 n) → (∀ n, c ≠ .int .u64 n) → ∀ x ∈ (#[a, b, c] : Array Value).toList, ∀ n, x ≠ .int .u64 n := by
    intro a b c ha hb hc x hx
    simp at hx
    rcases hx with rfl | rfl | rfl <;> assumption
  have q1 : pBlk g #[.bool b1, .slice x0 y0 z0, .int .i64 c0] t (w.setCell ⟨g, 0, none⟩ (.bool b1)) := pBlk.setX p0 0 (.bool b1)
  have q2 : pBlk g #[.bool b1, .slice x1 y1 z1, .int .i64 c0] t ((w.setCell ⟨g, 0, none⟩ (.bool b1)).setCell ⟨g, 1, none⟩ (.slice x1 y1 z1)) := pBlk.setX q1 1 (.slice x1 y1 z1)
  have q3 : pBlk g #[.bool b1, .slice x1 y1 z1, .int .i64 c1] t (((w.setCell ⟨g, 0, none⟩ (.bool b1)).setCell ⟨g, 1, none⟩ (.slice x1 y1 z1)).setCell ⟨g, 2, none⟩ (.int .i64 c1)) := pBlk.setX q2 2 (.int .i64 c1)
  refine ⟨_, rfl, q3, fun v k N h => ?_, fun B hB => ?_⟩
  · exact IsT.apartX (IsT.apartX (IsT.apartX h p0 (no3 _ _ _ (by simp) (by simp) (by simp))) q1 (no3 _ _ _ (by simp) (by simp) (by simp))) q2 (no3 _ _ _ (by simp) (by simp) (by simp))
  · exact (((Below.refl _ _).setCell (p := ⟨g, 0, none⟩) hB _).setCell (p := ⟨g, 1, none⟩) hB _).setCell (p := ⟨g, 2, none⟩) hB _
end Go.Proofs.YtdlkfnkmdlcekaaGreatDoor
