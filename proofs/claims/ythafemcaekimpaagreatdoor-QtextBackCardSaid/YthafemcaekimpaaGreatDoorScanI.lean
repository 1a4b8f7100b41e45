/- Bytes put behind bytes, inside a statement that draws its order; what Scan tells, as one. Conditions: the length's reach. -/
import Derived.Test.YthafemcaekimpaaGreatDoorScanG
import Derived.Deep.RegionLaw
import Derived.Deep.Upon
namespace Go.Proofs.YthafemcaekimpaaGreatDoor
open Go.RowKit Go.Cal
theorem heap_alloc_old (w : World) (o : Obj) {j : Nat} (h : j < w.heap.size) : (w.alloc o).heap[j]? = w.heap[j]? := ((Below.refl w.heap.size w).alloc (Nat.le_refl _) o).block j h
theorem run_app_o {w : World} {base g cap B c2 : Nat} {A : Option Addr} {l m : List UInt8} (ty : TypeId) (h : OwnB w base g cap l) (h2 : RdB w B A m) (hbase : base ≤ w.heap.size) (hsz : l.length + m.length ≤ 140737488355328) :
    ∃ g' cap' w', (Builtin.append_ #[57, 57] ty #[.slice (some ⟨g, 0, none⟩) l.length cap, .slice A m.length c2]).run Tryz.prog w = .ok (.slice (some ⟨g', 0, none⟩) (l ++ m).length cap') w' ∧ OwnB w' base g' cap' (l ++ m) ∧ Below base w w' ∧ (∀ j, j < w.heap.size → j ≠ g → w'.heap[j]? = w.heap[j]?) ∧ (g' = g ∨ g' = w.heap.size) := by
  obtain ⟨i, hi, hz0, hz1, hz2⟩ := info_parts sinfo_byte
  have hlen : (l ++ m).length = l.length + m.length := List.length_append
  rcases h2.place with rfl | ⟨b, off, rfl, hb⟩
  · refine ⟨g, cap, w, ?_, by rw [List.append_nil]; exact h, Below.refl _ _, fun _ _ _ => rfl, .inl rfl⟩
    have hroom : l.length + 0 ≤ cap := h.len
    cases A with
    | none => simp [Builtin.append_, run_underlying sunder_bytes, sizeOf, typeInfo, hi, Builtin.lenOf, Builtin.firstCells, h.len, storeCells]
    | some a =>
      have hr := run_append_room_cells (P := Tryz.prog) w 57 ty 5 i sunder_bytes hi g 0 l.length cap a 0 c2 [] (by simp) (fun j u hj => by simp at hj) (fun u hu => by simp at hu) hroom (fun j hj => by simp at hj) (fun j hj => by simp at hj)
      rw [List.append_nil]
      exact hr
  · have hnews : ∀ j u, (lBv m)[j]? = some u → w.cell? ((⟨b, off, none⟩ : Addr).add j) = some u := fun j u hj => by
      obtain ⟨h1, rfl⟩ := lBv_at hj
      rw [Addr.add_lit]
      exact h2.cells b off rfl j h1
    by_cases hroom : l.length + m.length ≤ cap
    · have hr := run_append_room_cells (P := Tryz.prog) w 57 ty 5 i sunder_bytes hi g 0 l.length cap ⟨b, off, none⟩ m.length c2 (lBv m) (by rw [lBv_length, hz1, Nat.mul_one]) hnews (lBv_one m) hroom
        (fun j hj => by rw [hz1, Nat.mul_one, Nat.zero_add]; exact h.some _ (by rw [lBv_length] at hj; omega)) (fun j hj => by rw [hz1, Nat.mul_one, Nat.zero_add]; exact h.free _ (by rw [lBv_length] at hj; omega))
      rw [hz1, Nat.mul_one, Nat.zero_add] at hr
      exact ⟨g, cap, _, by rw [hlen]; exact hr, ownB_more h hroom, Lib.below_setCells g h.base _ _ (Below.refl _ _), fun j hj hne => World.heap_setCells_other w g _ _ hj hne, .inl rfl⟩
    · have hr := run_append_grow (P := Tryz.prog) w 57 ty 5 i (.int .u8 0) sunder_bytes hi hz0 ⟨g, 0, none⟩ l.length cap (lBv l) (by rw [lBv_length, hz1, Nat.mul_one]) (fun j u hj => by
          obtain ⟨h1, rfl⟩ := lBv_at hj
          rw [Addr.add_lit, Nat.zero_add]
          exact h.cells j h1) ⟨b, off, none⟩ m.length c2 (lBv m) (by rw [lBv_length, hz1, Nat.mul_one]) hnews (by omega) (by omega) (growslice_fits (by omega) (by rw [hz2]; omega))
      exact ⟨_, _, _, by rw [hlen]; exact hr, ownB_grown w base _ l m hbase (grownCap_ge _ _ _ _) (grownCap_le_maxLen _ _ _ _ (by unfold maxLen; omega)), (Below.refl _ _).drew.alloc hbase _, fun j hj _ => heap_alloc_old w.drew _ hj, .inr rfl⟩
theorem run_app_str_o {w : World} {base g cap : Nat} {l m : List UInt8} (ty : TypeId) (h : OwnB w base g cap l) (hbase : base ≤ w.heap.size) (hsz : l.length + m.length ≤ 140737488355328) :
    ∃ g' cap' w', (Builtin.append_ #[57, 9] ty #[.slice (some ⟨g, 0, none⟩) l.length cap, .string (strL m)]).run Tryz.prog w = .ok (.slice (some ⟨g', 0, none⟩) (l ++ m).length cap') w' ∧ OwnB w' base g' cap' (l ++ m) ∧ Below base w w' ∧ (∀ j, j < w.heap.size → j ≠ g → w'.heap[j]? = w.heap[j]?) ∧ (g' = g ∨ g' = w.heap.size) := by
  obtain ⟨i, hi, hz0, hz1, hz2⟩ := info_parts sinfo_byte
  have hlen : (l ++ m).length = l.length + m.length := List.length_append
  have hms : (strL m).size = m.length := strL_size m
  by_cases hroom : l.length + m.length ≤ cap
  · have hf := Lib.run_firstCells_string (P := Tryz.prog) w 1 (strL m)
    have hst := run_storeCells_cells (P := Tryz.prog) g l.length (lBv m) 0 w (fun j hj => by rw [Nat.add_zero]; exact h.some _ (by rw [lBv_length] at hj; omega)) (fun j hj => by rw [Nat.add_zero]; exact h.free _ (by rw [lBv_length] at hj; omega)) (lBv_one m)
    rw [hms, strCells_strL] at hf
    rw [Nat.add_zero] at hst
    refine ⟨g, cap, _, ?_, ownB_more h hroom, Lib.below_setCells g h.base _ _ (Below.refl _ _), fun j hj hne => World.heap_setCells_other w g _ _ hj hne, .inl rfl⟩
    rw [hlen]
    simp [Builtin.append_, run_underlying sunder_bytes, run_underlying sunder_str, sizeOf, typeInfo, hi, hz1, Builtin.lenOf, hms, hroom, hf, Addr.add_lit, hst]
  · have hr := Lib.run_append_grow_string (P := Tryz.prog) w 57 9 ty 5 i (.int .u8 0) sunder_bytes sunder_str hi hz0 ⟨g, 0, none⟩ l.length cap (lBv l) (by rw [lBv_length, hz1, Nat.mul_one]) (fun j u hj => by
          obtain ⟨h1, rfl⟩ := lBv_at hj
          rw [Addr.add_lit, Nat.zero_add]
          exact h.cells j h1) (strL m) (by omega) (by omega) (growslice_fits (by omega) (by rw [hz2]; omega))
    rw [hms, strCells_strL] at hr
    exact ⟨_, _, _, by rw [hlen]; exact hr, ownB_grown w base _ l m hbase (grownCap_ge _ _ _ _) (grownCap_le_maxLen _ _ _ _ (by unfold maxLen; omega)), (Below.refl _ _).drew.alloc hbase _, fun j hj _ => heap_alloc_old w.drew _ hj, .inr rfl⟩
/-- append, at a step of a region that draws. -/
theorem step_app {w : World} {ops : Array Oper} {o : Oper} {a : Act} {K : Act → World → Prop} {Q : Exit → Act → World → Prop} {E : Prop} (hgd : o.guard = none) (s x : Operand)
    (ho : o.op = .call { callee := .builtin .append, args := #[s, x], argTypes := #[57, 57] }) (base : Nat) (l m : List UInt8) {g cap c2 n k : Nat} {A : Option Addr}
    (hs : a.eval s = .slice (some ⟨g, 0, none⟩) n cap) (hn : n = l.length) (hx : a.eval x = .slice A k c2) (hk : k = m.length) (h1 : OwnB w base g cap l) (h2 : RdB w w.heap.size A m) (hbase : base ≤ w.heap.size) (hsz : l.length + m.length ≤ 140737488355328)
    (h : ∀ g' cap' w', OwnB w' base g' cap' (l ++ m) → Below base w w' → (∀ j, j < w.heap.size → j ≠ g → w'.heap[j]? = w.heap[j]?) → (g' = g ∨ g' = w.heap.size) → K (a.put o.dst (.slice (some ⟨g', 0, none⟩) (l ++ m).length cap')) w') :
    if Region.wanted o (yielded ops a.tmps) = true then Oper.wp Tryz.prog o a w K Q else E := by
  have hw : Region.wanted o (yielded ops a.tmps) = true := by simp [Region.wanted, hgd]
  rw [if_pos hw]
  subst hn; subst hk
  obtain ⟨g', cap', w', hr, h3, h4, h5, h6⟩ := run_app_o (c2 := c2) o.type h1 h2 hbase hsz
  unfold Oper.wp execOp
  simp only [ho, resolve, invoke, builtin, Sem.run_bind, Sem.run_pure, Result.andThen_ok, List.map_toArray, List.map_cons, List.map_nil, hs, hx, hr]
  exact h g' cap' w' h3 h4 h5 h6
theorem step_app_str {w : World} {ops : Array Oper} {o : Oper} {a : Act} {K : Act → World → Prop} {Q : Exit → Act → World → Prop} {E : Prop} (hgd : o.guard = none) (s x : Operand)
    (ho : o.op = .call { callee := .builtin .append, args := #[s, x], argTypes := #[57, 9] }) (base : Nat) (l m : List UInt8) {g cap n : Nat}
    (hs : a.eval s = .slice (some ⟨g, 0, none⟩) n cap) (hn : n = l.length) (hx : a.eval x = .string (strL m)) (h1 : OwnB w base g cap l) (hbase : base ≤ w.heap.size) (hsz : l.length + m.length ≤ 140737488355328)
    (h : ∀ g' cap' w', OwnB w' base g' cap' (l ++ m) → Below base w w' → (∀ j, j < w.heap.size → j ≠ g → w'.heap[j]? = w.heap[j]?) → (g' = g ∨ g' = w.heap.size) → K (a.put o.dst (.slice (some ⟨g', 0, none⟩) (l ++ m).length cap')) w') :
    if Region.wanted o (yielded ops a.tmps) = true then Oper.wp Tryz.prog o a w K Q else E := by
  have hw : Region.wanted o (yielded ops a.tmps) = true := by simp [Region.wanted, hgd]
  rw [if_pos hw]
  subst hn
  obtain ⟨g', cap', w', hr, h3, h4, h5, h6⟩ := run_app_str_o o.type h1 hbase hsz
  unfold Oper.wp execOp
  simp only [ho, resolve, invoke, builtin, Sem.run_bind, Sem.run_pure, Result.andThen_ok, List.map_toArray, List.map_cons, List.map_nil, hs, hx, hr]
  exact h g' cap' w' h3 h4 h5 h6
/-- An empty row. -/
theorem OwnB.none {w : World} {base g : Nat} (hb : base ≤ g) (hg : g < w.heap.size) : OwnB w base g 0 [] :=
  ⟨hb, hg, Nat.le_refl _, by unfold maxLen; omega, fun i hi => by simp at hi, fun i hi => by simp at hi, fun i hi => by simp at hi⟩
/-- What Scan tells of bytes, as numbers. -/
def posOf (l : List UInt8) : Int := if (textS l).1 = true then 0 else ((textS l).2 : Nat)
def errOf (l : List UInt8) : Int := if (textS l).1 = true then 0 else 2
theorem scan_res {A : Option Addr} {c : Nat} (l : List UInt8) (n : Nat) (hn : l.length = n) (hl : n ≤ 1000000) (w : World) (hr : RdB w w.heap.size A l) : Calls Tryz.prog 32 #[.slice A n c] w fun e w' =>
    ∃ (kd : Int) (ng : Bool) (A' : Option Addr) (n' c' : Nat) (k bg : Int) (ct : Bool), e = .returned (.tuple #[.agg #[.int .i64 kd, .bool ng, .slice A' n' c', .int .i64 k, .int .i64 bg, .bool ct], .int .i64 (posOf l), .int .i64 (errOf l)]) ∧ Below w.heap.size w w' := by
  by_cases hok : (textS l).1 = true
  · refine (scan_yes l _ n hok rfl hn hl w hr).mono ?_
    rintro e w' ⟨A', n', c', rfl, _, hb⟩
    rw [show posOf l = 0 from if_pos hok, show errOf l = 0 from if_pos hok]
    exact ⟨_, _, _, _, _, _, _, _, rfl, hb⟩
  · have hok' : (textS l).1 = false := by simpa using hok
    refine (scan_no l _ n hok' rfl hn hl w hr).mono ?_
    rintro e w' ⟨rfl, hb⟩
    rw [show posOf l = ((textS l).2 : Nat) from if_neg hok, show errOf l = 2 from if_neg hok]
    exact ⟨_, _, _, _, _, _, _, _, rfl, hb⟩
theorem rd_go {w w' : World} {A : Option Addr} {l : List UInt8} (h : RdB w w.heap.size A l) (hb : Below w.heap.size w w') : RdB w' w'.heap.size A l := (h.below hb).more hb.size
theorem errOf_no {l : List UInt8} {f : Int} (h : errOf l = f) (hf : ¬ f = 0) : (textS l).1 = false := by
  unfold errOf at h
  by_cases hok : (textS l).1 = true
  · rw [if_pos hok] at h; exact absurd h.symm hf
  · simpa using hok
theorem errOf_yes {l : List UInt8} {f : Int} (h : errOf l = f) (hf : f = 0) : (textS l).1 = true := by
  unfold errOf at h
  by_cases hok : (textS l).1 = true
  · exact hok
  · rw [if_neg hok, hf] at h; exact absurd h (by decide)
theorem pBlk_made' (w : World) (cs : Array Value) (t : TypeId) (s : Nat) (hs : w.heap.size = s) : pBlk s cs t (w.alloc (.cells cs t)) := by
  subst hs; exact pBlk_made w cs t
theorem pBlk.drew {s : Nat} {cs : Array Value} {t : TypeId} {w : World} (h : pBlk s cs t w) : pBlk s cs t w.drew := h
theorem pBlk.alloc {s : Nat} {cs : Array Value} {t : TypeId} {w : World} (h : pBlk s cs t w) (o : Obj) : pBlk s cs t (w.alloc o) := (pBlk_st s cs t) _ _ h ((Below.refl _ _).alloc (Nat.le_refl _) _)
theorem pBlk.ne {s g g' : Nat} {cs : Array Value} {t : TypeId} {w : World} (h : pBlk s cs t w) (hg : g' = g ∨ g' = w.heap.size) (hne : s ≠ g) : s ≠ g' := by
  have := h.lt
  rcases hg with e | e
  · rw [e]; exact hne
  · rw [e]; omega
theorem pBlk.only {s g : Nat} {cs : Array Value} {t : TypeId} {w w' : World} (h : pBlk s cs t w) (ho : ∀ j, j < w.heap.size → j ≠ g → w'.heap[j]? = w.heap[j]?) (hne : s ≠ g) : pBlk s cs t w' := (ho s h.lt hne).trans h
end Go.Proofs.YthafemcaekimpaaGreatDoor
