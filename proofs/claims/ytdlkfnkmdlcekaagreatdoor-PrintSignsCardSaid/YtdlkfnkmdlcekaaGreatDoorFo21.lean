/- Bytes put behind bytes: append, onto a slice that the walk has made. Conditions: the length's reach. -/
/- The law ScanFar, walked. Condition: the table of powers reads as it is laid. -/
/- The laws of Scan: strings put together out of digits; a number as text. Condition: the table of powers reads as it is laid. -/
import Derived.Test.YtdlkfnkmdlcekaaGreatDoorFo20
import Derived.Lib.AppendStr
import Derived.Lib.SlBuf
import Derived.ArgAppend
import Derived.Test.YtdlkfnkmdlcekaaGreatDoorFo03
namespace Go.Proofs.YtdlkfnkmdlcekaaGreatDoor
open Go.RowKit Go.Cal
/-- A slice of bytes that is the walk's own: from its first cell on, no cell of it barred. -/
structure OwnB (w : World) (base g cap : Nat) (l : List UInt8) : Prop where
  base : base ≤ g
  lt : g < w.heap.size
  len : l.length ≤ cap
  capb : cap ≤ maxLen
  cells : ∀ i, i < l.length → w.cell? ⟨g, i, none⟩ = some (.int .u8 (((l.getD i 0).toNat : Nat) : Int))
  some : ∀ i, i < cap → (w.cell? ⟨g, i, none⟩).isSome = true
  free : ∀ i, i < cap → w.frozen? ⟨g, i, none⟩ = false
theorem OwnB.rd {w : World} {base g cap : Nat} {l : List UInt8} (h : OwnB w base g cap l) : RdB w w.heap.size (Option.some ⟨g, 0, none⟩) l := by
  refine ⟨.inr ⟨_, _, rfl, h.lt⟩, fun b off e i hi => ?_⟩
  injection e with e
  injection e with e1 e2
  subst e1; subst e2
  rw [Nat.zero_add]
  exact h.cells i hi
theorem OwnB.below {w w' : World} {base g cap : Nat} {l : List UInt8} (h : OwnB w base g cap l) (hb : Below w.heap.size w w') : OwnB w' base g cap l :=
  ⟨h.base, Nat.lt_of_lt_of_le h.lt hb.size, h.len, h.capb, fun i hi => by rw [(bcell hb).1 _ _ h.lt]; exact h.cells i hi, fun i hi => by rw [(bcell hb).1 _ _ h.lt]; exact h.some i hi, fun i hi => by rw [(bcell hb).2 _ _ h.lt]; exact h.free i hi⟩
theorem OwnB.alloc {w : World} {base g cap : Nat} {l : List UInt8} (h : OwnB w base g cap l) (o : Obj) : OwnB (w.alloc o) base g cap l := h.below ((Below.refl _ _).alloc (Nat.le_refl _) o)
theorem OwnB.drew {w : World} {base g cap : Nat} {l : List UInt8} (h : OwnB w base g cap l) : OwnB w.drew base g cap l := ⟨h.base, h.lt, h.len, h.capb, h.cells, h.some, h.free⟩
theorem OwnB.le {w : World} {base base' g cap : Nat} {l : List UInt8} (h : OwnB w base g cap l) (hb : base' ≤ base) : OwnB w base' g cap l := ⟨Nat.le_trans hb h.base, h.lt, h.len, h.capb, h.cells, h.some, h.free⟩
theorem lBv_length (l : List UInt8) : (lBv l).length = l.length := by simp [lBv]
theorem lBv_at {l : List UInt8} {j : Nat} {v : Value} (h : (lBv l)[j]? = some v) : j < l.length ∧ v = .int .u8 (((l.getD j 0).toNat : Nat) : Int) := by
  have hj : j < l.length := by
    have := (List.getElem?_eq_some_iff.1 h).1
    rwa [lBv_length] at this
  refine ⟨hj, ?_⟩
  simp [lBv, hj] at h
  rw [← h]
  simp [List.getD_eq_getElem?_getD, hj]
theorem lBv_get {l : List UInt8} {j : Nat} (hj : j < l.length) : (lBv l)[j]? = some (.int .u8 (((l.getD j 0).toNat : Nat) : Int)) := by
  simp [lBv, List.getD_eq_getElem?_getD, hj]
theorem lBv_one (l : List UInt8) : ∀ u ∈ lBv l, u.oneCell' = true := by
  intro u hu
  simp only [lBv, List.mem_map] at hu
  obtain ⟨x, _, rfl⟩ := hu
  rfl
/-- A new row: a beginning that reads as l, cells behind it. -/
theorem ownB_row (w : World) (base : Nat) (C : Array Value) (lo hi cap : Nat) (l : List UInt8) (hb : base ≤ w.heap.size) (hc : C.size = cap) (hl : l.length ≤ cap) (hm : cap ≤ maxLen) (hr : ∀ i, i < l.length → C[i]? = some (.int .u8 (((l.getD i 0).toNat : Nat) : Int)))
    (hfr : cap ≤ lo ∨ hi = 0) : OwnB (w.alloc (.cells C 5 (lo, hi))) base w.heap.size cap l := by
  refine ⟨hb, by simp, hl, hm, fun i hi => ?_, fun i hi => ?_, fun i hi' => ?_⟩
  · rw [World.cell?_alloc_mark]; exact hr i hi
  · rw [World.cell?_alloc_mark, Array.getElem?_eq_getElem (by omega)]; rfl
  · rw [World.frozen?_alloc_mark]
    rcases hfr with h | h
    · rw [decide_eq_false (by omega)]; rfl
    · rw [h, decide_eq_false (p := i < 0) (by omega), Bool.and_false]
theorem ownB_lit (w : World) (base : Nat) (l : List UInt8) (lo hi : Nat) (C : Array Value) (hC : C = (lBv l).toArray) (hb : base ≤ w.heap.size) (hm : l.length ≤ maxLen) (hfr : l.length ≤ lo ∨ hi = 0) : OwnB (w.alloc (.cells C 5 (lo, hi))) base w.heap.size l.length l := by
  subst hC
  exact ownB_row w base _ lo hi _ l hb (by rw [List.size_toArray, lBv_length]) (Nat.le_refl _) hm (fun i hi => by rw [List.getElem?_toArray]; exact lBv_get hi) hfr
theorem ownB_lit2 (w : World) (o : Obj) (l : List UInt8) (C : Array Value) (hC : C = (lBv l).toArray) (hm : l.length ≤ maxLen) : OwnB ((w.alloc o).alloc (.cells C 5)) (w.heap.size + 1) (w.heap.size + 1) l.length l := by
  have hs : (w.alloc o).heap.size = w.heap.size + 1 := by simp
  have h := ownB_lit (w.alloc o) (w.heap.size + 1) l 0 0 C hC (by rw [hs]; exact Nat.le_refl _) hm (.inr rfl)
  rw [hs] at h
  exact h
theorem ownB_bytes (w : World) (base n : Nat) (l : List UInt8) (hb : base ≤ w.heap.size) (hn : l.length ≤ n) (hm : n ≤ maxLen) : OwnB (w.drew.alloc (.cells (bytesRow (strL l) n) 5 ((bytesRow (strL l) n).size, (bytesRow (strL l) n).size + 1))) base w.heap.size n l := by
  have hs : (bytesRow (strL l) n).size = n := by
    unfold bytesRow
    have h1 : (strL l).data.size = l.length := strL_size l
    have h2 : (strL l).size = l.length := strL_size l
    simp only [Array.size_append, Array.size_map, Array.size_replicate, h1, h2]
    omega
  refine ownB_row w.drew base _ _ _ n l hb hs hn hm (fun i hi => ?_) (.inl (by rw [hs]; exact Nat.le_refl _))
  have hz : i < (strL l).data.size := by show i < l.toArray.size; simpa using hi
  rw [bytesRow_at _ _ _ hz]
  have : (strL l).data[i] = l.getD i 0 := by
    show l.toArray[i]'_ = _
    simp [List.getD_eq_getElem?_getD, hi]
    rfl
  rw [this]
theorem sinfo_byte : (Tryz.prog.info? 5).map (fun i => (i.zero, i.size, i.bytes)) = some (some (.int .u8 0), 1, 1) := by kernel_rfl
theorem getD_app_l (a b : List UInt8) {i : Nat} (h : i < a.length) : (a ++ b).getD i 0 = a.getD i 0 := by
  rw [List.getD_eq_getElem?_getD, List.getD_eq_getElem?_getD, List.getElem?_append_left h]
theorem getD_app_r (a b : List UInt8) {i : Nat} : (a ++ b).getD (a.length + i) 0 = b.getD i 0 := by
  simp [List.getD_eq_getElem?_getD, List.getElem?_append_right]
/-- The row that is written at its end. -/
theorem ownB_more {w : World} {base g cap : Nat} {l m : List UInt8} (h : OwnB w base g cap l) (hr : l.length + m.length ≤ cap) : OwnB (w.setCells g l.length (lBv m)) base g cap (l ++ m) := by
  have hb : Below 0 w (w.setCells g l.length (lBv m)) := Lib.below_setCells g (by omega) _ _ (Below.refl _ _)
  have hso : ∀ j, j < (lBv m).length → (w.cell? ⟨g, l.length + j, none⟩).isSome = true := fun j hj => h.some _ (by rw [lBv_length] at hj; omega)
  have hin := World.cell?_setCells_in g (lBv m) l.length w hso
  refine ⟨h.base, Nat.lt_of_lt_of_le h.lt hb.size, by rw [List.length_append]; exact hr, h.capb, fun i hi => ?_, fun i hi => ?_, fun i hi => by rw [World.frozen?_setCells]; exact h.free i hi⟩
  · rcases Nat.lt_or_ge i l.length with hl | hl
    · rw [World.cell?_setCells_out _ _ _ _ _ (fun _ _ => .inl hl), getD_app_l _ _ hl]
      exact h.cells i hl
    · obtain ⟨j, rfl⟩ := Nat.exists_eq_add_of_le hl
      rw [List.length_append] at hi
      have hj : j < (lBv m).length := by rw [lBv_length]; omega
      rw [hin j hj, getD_app_r]
      have := lBv_get (l := m) (j := j) (by omega)
      rw [List.getElem?_eq_getElem hj] at this
      exact this
  · by_cases hj : l.length ≤ i ∧ i < l.length + (lBv m).length
    · obtain ⟨j, rfl⟩ := Nat.exists_eq_add_of_le hj.1
      rw [hin j (by omega)]; rfl
    · rw [World.cell?_setCells_out _ _ _ _ _ (fun _ _ => by show i < _ ∨ _ ≤ i; omega)]
      exact h.some i hi
/-- The row that grows. -/
theorem ownB_grown (w : World) (base c : Nat) (l m : List UInt8) (hb : base ≤ w.heap.size) (hc : l.length + m.length ≤ c) (hm : c ≤ maxLen) : OwnB (w.drew.alloc (.cells ((lBv l).toArray ++ (lBv m).toArray ++ Builtin.zeroCells (Value.int .u8 0).cells (c - (l.length + m.length))) 5)) base w.heap.size c (l ++ m) := by
  have hz1 : (Value.int IntKind.u8 0).cells.size = 1 := rfl
  refine ownB_row w.drew base _ 0 0 c (l ++ m) hb ?_ (by rw [List.length_append]; exact hc) hm (fun i hi => ?_) (.inr rfl)
  · simp only [Array.size_append, List.size_toArray, size_zeroCells, hz1, lBv_length]; omega
  · have hmap : (lBv l).toArray ++ (lBv m).toArray = (lBv (l ++ m)).toArray := by simp [lBv]
    rw [hmap, Array.getElem?_append_left (by rw [List.size_toArray, lBv_length]; exact hi), List.getElem?_toArray]
    exact lBv_get hi
theorem run_app {w : World} {base g cap B c2 : Nat} {A : Option Addr} {l m : List UInt8} (ty : TypeId) (h : OwnB w base g cap l) (h2 : RdB w B A m) (hbase : base ≤ w.heap.size) (hsz : l.length + m.length ≤ 140737488355328) :
    ∃ g' cap' w', (Builtin.append_ #[66, 66] ty #[.slice (some ⟨g, 0, none⟩) l.length cap, .slice A m.length c2]).run Tryz.prog w = .ok (.slice (some ⟨g', 0, none⟩) (l ++ m).length cap') w' ∧ OwnB w' base g' cap' (l ++ m) ∧ Below base w w' := by
  obtain ⟨i, hi, hz0, hz1, hz2⟩ := info_parts sinfo_byte
  have hlen : (l ++ m).length = l.length + m.length := List.length_append
  rcases h2.place with rfl | ⟨b, off, rfl, hb⟩
  · refine ⟨g, cap, w, ?_, by rw [List.append_nil]; exact h, Below.refl _ _⟩
    have hroom : l.length + 0 ≤ cap := h.len
    cases A with
    | none => simp [Builtin.append_, run_underlying sunder_bytes, sizeOf, typeInfo, hi, Builtin.lenOf, Builtin.firstCells, h.len, storeCells]
    | some a =>
      have hr := run_append_room_cells (P := Tryz.prog) w 66 ty 5 i sunder_bytes hi g 0 l.length cap a 0 c2 [] (by simp) (fun j u hj => by simp at hj) (fun u hu => by simp at hu) hroom (fun j hj => by simp at hj) (fun j hj => by simp at hj)
      rw [List.append_nil]
      exact hr
  · have hnews : ∀ j u, (lBv m)[j]? = some u → w.cell? ((⟨b, off, none⟩ : Addr).add j) = some u := fun j u hj => by
      obtain ⟨h1, rfl⟩ := lBv_at hj
      rw [Addr.add_lit]
      exact h2.cells b off rfl j h1
    by_cases hroom : l.length + m.length ≤ cap
    · have hr := run_append_room_cells (P := Tryz.prog) w 66 ty 5 i sunder_bytes hi g 0 l.length cap ⟨b, off, none⟩ m.length c2 (lBv m) (by rw [lBv_length, hz1, Nat.mul_one]) hnews (lBv_one m) hroom
        (fun j hj => by rw [hz1, Nat.mul_one, Nat.zero_add]; exact h.some _ (by rw [lBv_length] at hj; omega)) (fun j hj => by rw [hz1, Nat.mul_one, Nat.zero_add]; exact h.free _ (by rw [lBv_length] at hj; omega))
      rw [hz1, Nat.mul_one, Nat.zero_add] at hr
      exact ⟨g, cap, _, by rw [hlen]; exact hr, ownB_more h hroom, Lib.below_setCells g h.base _ _ (Below.refl _ _)⟩
    · have hr := run_append_grow (P := Tryz.prog) w 66 ty 5 i (.int .u8 0) sunder_bytes hi hz0 ⟨g, 0, none⟩ l.length cap (lBv l) (by rw [lBv_length, hz1, Nat.mul_one]) (fun j u hj => by
          obtain ⟨h1, rfl⟩ := lBv_at hj
          rw [Addr.add_lit, Nat.zero_add]
          exact h.cells j h1) ⟨b, off, none⟩ m.length c2 (lBv m) (by rw [lBv_length, hz1, Nat.mul_one]) hnews (by omega) (by omega) (growslice_fits (by omega) (by rw [hz2]; omega))
      exact ⟨_, _, _, by rw [hlen]; exact hr, ownB_grown w base _ l m hbase (grownCap_ge _ _ _ _) (grownCap_le_maxLen _ _ _ _ (by unfold maxLen; omega)), (Below.refl _ _).drew.alloc hbase _⟩
theorem strCells_strL (l : List UInt8) : Lib.strCells (strL l) = lBv l := by
  unfold Lib.strCells strL lBv
  simp
theorem run_app_str {w : World} {base g cap : Nat} {l m : List UInt8} (ty : TypeId) (h : OwnB w base g cap l) (hbase : base ≤ w.heap.size) (hsz : l.length + m.length ≤ 140737488355328) :
    ∃ g' cap' w', (Builtin.append_ #[66, 9] ty #[.slice (some ⟨g, 0, none⟩) l.length cap, .string (strL m)]).run Tryz.prog w = .ok (.slice (some ⟨g', 0, none⟩) (l ++ m).length cap') w' ∧ OwnB w' base g' cap' (l ++ m) ∧ Below base w w' := by
  obtain ⟨i, hi, hz0, hz1, hz2⟩ := info_parts sinfo_byte
  have hlen : (l ++ m).length = l.length + m.length := List.length_append
  have hms : (strL m).size = m.length := strL_size m
  by_cases hroom : l.length + m.length ≤ cap
  · have hf := Lib.run_firstCells_string (P := Tryz.prog) w 1 (strL m)
    have hst := run_storeCells_cells (P := Tryz.prog) g l.length (lBv m) 0 w (fun j hj => by rw [Nat.add_zero]; exact h.some _ (by rw [lBv_length] at hj; omega)) (fun j hj => by rw [Nat.add_zero]; exact h.free _ (by rw [lBv_length] at hj; omega)) (lBv_one m)
    rw [hms, strCells_strL] at hf
    rw [Nat.add_zero] at hst
    refine ⟨g, cap, _, ?_, ownB_more h hroom, Lib.below_setCells g h.base _ _ (Below.refl _ _)⟩
    rw [hlen]
    simp [Builtin.append_, run_underlying sunder_bytes, run_underlying sunder_str, sizeOf, typeInfo, hi, hz1, Builtin.lenOf, hms, hroom, hf, Addr.add_lit, hst]
  · have hr := Lib.run_append_grow_string (P := Tryz.prog) w 66 9 ty 5 i (.int .u8 0) sunder_bytes sunder_str hi hz0 ⟨g, 0, none⟩ l.length cap (lBv l) (by rw [lBv_length, hz1, Nat.mul_one]) (fun j u hj => by
          obtain ⟨h1, rfl⟩ := lBv_at hj
          rw [Addr.add_lit, Nat.zero_add]
          exact h.cells j h1) (strL m) (by omega) (by omega) (growslice_fits (by omega) (by rw [hz2]; omega))
    rw [hms, strCells_strL] at hr
    exact ⟨_, _, _, by rw [hlen]; exact hr, ownB_grown w base _ l m hbase (grownCap_ge _ _ _ _) (grownCap_le_maxLen _ _ _ _ (by unfold maxLen; omega)), (Below.refl _ _).drew.alloc hbase _⟩
/-- append, for the walk. -/
theorem wpList_app {w : World} {ops : Array Oper} {rest : List Oper} {o : Oper} {a : Act} {Q : Exit → Act → World → Prop} (hgd : o.guard = none) (s x : Operand)
    (ho : o.op = .call { callee := .builtin .append, args := #[s, x], argTypes := #[66, 66] }) (base : Nat) (l m : List UInt8) {g cap c2 n k : Nat} {A : Option Addr}
    (hs : a.eval s = .slice (some ⟨g, 0, none⟩) n cap) (hn : n = l.length) (hx : a.eval x = .slice A k c2) (hk : k = m.length) (h1 : OwnB w base g cap l) (h2 : RdB w w.heap.size A m) (hbase : base ≤ w.heap.size) (hsz : l.length + m.length ≤ 140737488355328)
    (h : ∀ g' cap' w', OwnB w' base g' cap' (l ++ m) → Below base w w' → wpList Tryz.prog ops Q rest (a.put o.dst (.slice (some ⟨g', 0, none⟩) (l ++ m).length cap')) w') : wpList Tryz.prog ops Q (o :: rest) a w := by
  subst hn; subst hk
  obtain ⟨g', cap', w', hr, h3, h4⟩ := run_app (c2 := c2) o.type h1 h2 hbase hsz
  refine wpList_plain hgd fun K hK => ?_
  unfold Oper.wp execOp
  simp only [ho, resolve, invoke, builtin, Sem.run_bind, Sem.run_pure, Result.andThen_ok, List.map_toArray, List.map_cons, List.map_nil, hs, hx, hr]
  exact hK _ _ (h g' cap' w' h3 h4)
theorem wpList_app_str {w : World} {ops : Array Oper} {rest : List Oper} {o : Oper} {a : Act} {Q : Exit → Act → World → Prop} (hgd : o.guard = none) (s x : Operand)
    (ho : o.op = .call { callee := .builtin .append, args := #[s, x], argTypes := #[66, 9] }) (base : Nat) (l m : List UInt8) {g cap n : Nat}
    (hs : a.eval s = .slice (some ⟨g, 0, none⟩) n cap) (hn : n = l.length) (hx : a.eval x = .string (strL m)) (h1 : OwnB w base g cap l) (hbase : base ≤ w.heap.size) (hsz : l.length + m.length ≤ 140737488355328)
    (h : ∀ g' cap' w', OwnB w' base g' cap' (l ++ m) → Below base w w' → wpList Tryz.prog ops Q rest (a.put o.dst (.slice (some ⟨g', 0, none⟩) (l ++ m).length cap')) w') : wpList Tryz.prog ops Q (o :: rest) a w := by
  subst hn
  obtain ⟨g', cap', w', hr, h3, h4⟩ := run_app_str o.type h1 hbase hsz
  refine wpList_plain hgd fun K hK => ?_
  unfold Oper.wp execOp
  simp only [ho, resolve, invoke, builtin, Sem.run_bind, Sem.run_pure, Result.andThen_ok, List.map_toArray, List.map_cons, List.map_nil, hs, hx, hr]
  exact hK _ _ (h g' cap' w' h3 h4)
/-- The beginning of a slice of bytes. -/
theorem RdB.take {w : World} {B : Nat} {A : Option Addr} {l : List UInt8} (h : RdB w B A l) (n : Nat) : RdB w B A (l.take n) := by
  rcases h.place with rfl | ⟨b, off, e, hb⟩
  · exact ⟨.inl List.take_nil, fun _ _ _ i hi => by simp at hi⟩
  · refine ⟨.inr ⟨b, off, e, hb⟩, fun b' off' e' i hi => ?_⟩
    have hi' : i < l.length ∧ i < n := by rw [List.length_take] at hi; omega
    rw [h.cells b' off' e' i hi'.1]
    simp [List.getD_eq_getElem?_getD, hi'.2]
/-- Bytes that read so, for the walk. -/
def pR (A : Option Addr) (l : List UInt8) (w : World) : Prop := RdB w w.heap.size A l
theorem RdB.more {w : World} {B B' : Nat} {A : Option Addr} {l : List UInt8} (h : RdB w B A l) (hb : B ≤ B') : RdB w B' A l :=
  ⟨h.place.imp id (fun ⟨b, off, e, hl⟩ => ⟨b, off, e, Nat.lt_of_lt_of_le hl hb⟩), h.cells⟩
theorem pR_st (A : Option Addr) (l : List UInt8) : Stable (pR A l) := fun _ _ h hb => (RdB.below h hb).more hb.size
/-- A slice of bytes that came in. -/
def ArgB (w : World) (v : Value) : Prop := ∃ A c l, v = .slice A (l : List UInt8).length c ∧ RdB w w.heap.size A l ∧ (A = none → c = 0) ∧ l.length ≤ c ∧ c ≤ maxLen
/-- The beginning of it. -/
theorem ArgB.cut {w : World} {v : Value} (h : ArgB w v) (n : Nat) : ∃ A c k l, v = .slice A k c ∧ RdB w w.heap.size A l ∧ (min (k : Int) (n : Int) = ((l : List UInt8).length : Int)) ∧ ((l.length : Nat) : Int) ≤ c ∧ c ≤ maxLen ∧ l.length ≤ n := by
  obtain ⟨A, c, l, rfl, h1, h2, h3, h4⟩ := h
  have hl : (l.take n).length = min n l.length := List.length_take
  exact ⟨A, c, l.length, l.take n, rfl, h1.take n, by omega, by omega, h4, by omega⟩
theorem slice_head (A : Option Addr) (n c : Nat) (k : Int) (w : World) (h0 : 0 ≤ k) (h1 : k ≤ c) : (Instr.slice 66 (.slice A n c) none (some (.int .i64 k)) none).run Tryz.prog w = .ok (.slice A k.toNat c) w := by
  have hu : Tryz.prog.underlying 66 = some (.slice (Tryz.prog.elem 66)) := by kernel_rfl
  have ha : ∀ a : Addr, a.add 0 = a := fun a => by cases a; unfold Addr.add; split <;> simp_all
  rw [run_slice_h _ _ _ _ _ hu .i64 k h0 h1]
  obtain ⟨i, hi, hz0, hz1, hz2⟩ := info_parts sinfo_byte
  have he : Tryz.prog.elem 66 = 5 := by kernel_rfl
  have hs : (sizeOf (Tryz.prog.elem 66)).run Tryz.prog w = .ok 1 w := by
    rw [he]; simp [sizeOf, typeInfo, hi, hz1]
  rw [hs]
  simp [Result.andThen, sliced, ha]
/-- An item, as it stands. -/
theorem pItemN_st (base : Nat) (v : Value) (it : Cal.Item) : Stable (pItemN base v it) := fun _ _ ⟨A, c, zs, e, h1, h2, h3, h4, h5, h6⟩ hb => ⟨A, c, zs, e, RdU.more (h1.below hb) hb.size, h2, h3, h4, h5, h6⟩
theorem pItemN.setCell {base : Nat} {v : Value} {it : Cal.Item} {w : World} {p : Addr} (u : Value) (h : pItemN base v it w) (hp : p.block < base) : pItemN base v it (w.setCell p u) := by
  obtain ⟨A, c, zs, e, h1, h2, h3, h4, h5, h6⟩ := h
  refine ⟨A, c, zs, e, ?_, h2, h3, h4, h5, h6⟩
  rw [size_setCell]
  exact RdU.apart h1 h6 hp
theorem pItem_again {kd : Int} {ng : Bool} {d : Value} {k : Int} {bg : Int} {ct : Bool} {it : Cal.Item} {w : World} (h : pItem (.agg #[.int .i64 kd, .bool ng, d, .int .i64 k, .int .i64 bg, .bool ct]) it w) : IsT w d 2000 it.d := by
  obtain ⟨d', e, hd⟩ := h
  injection e with e
  have := congrArg (fun a => a[2]?) e
  simp at this
  rw [this]
  exact hd
/-- Scan, of bytes that are a text. -/
theorem scan_yes {A : Option Addr} {c : Nat} (l : List UInt8) (it : Cal.Item) (n : Nat) (hok : (textS l).1 = true) (hit : textV 1125899906842624 l = it) (hn : l.length = n) (hl : n ≤ 1000000) (w : World) (hr : RdB w w.heap.size A l) : Calls Tryz.prog 31 #[.slice A n c] w fun e w' =>
    ∃ A' n' c', e = .returned (.tuple #[.agg #[.int .i64 (it.kind : Nat), .bool it.neg, .slice A' n' c', .int .i64 it.k, .int .i64 it.big, .bool it.cut], .int .i64 0, .int .i64 0]) ∧ pItemN w.heap.size (.agg #[.int .i64 (it.kind : Nat), .bool it.neg, .slice A' n' c', .int .i64 it.k, .int .i64 it.big, .bool it.cut]) it w' ∧ Below w.heap.size w w' := by
  subst hn; subst hit
  refine (scan_any l c w hr (by omega)).mono ?_
  rintro e w' ⟨⟨_, v, rfl, hv⟩ | ⟨hno, _⟩, hb⟩
  · obtain ⟨A', c', zs, rfl, h⟩ := id hv
    exact ⟨_, _, _, rfl, hv, hb⟩
  · rw [hok] at hno; cases hno
/-- Scan, of bytes that are none. -/
theorem scan_no {A : Option Addr} {c : Nat} (l : List UInt8) (p n : Nat) (hok : (textS l).1 = false) (hp : (textS l).2 = p) (hn : l.length = n) (hl : n ≤ 1000000) (w : World) (hr : RdB w w.heap.size A l) : Calls Tryz.prog 31 #[.slice A n c] w fun e w' =>
    e = .returned (.tuple #[.agg #[.int .i64 0, .bool false, .slice none 0 0, .int .i64 0, .int .i64 0, .bool false], .int .i64 p, .int .i64 2]) ∧ Below w.heap.size w w' := by
  subst hn; subst hp
  refine (scan_any l c w hr (by omega)).mono ?_
  rintro e w' ⟨⟨hy, _⟩ | ⟨_, rfl⟩, hb⟩
  · rw [hok] at hy; cases hy
  · exact ⟨rfl, hb⟩
theorem below_app {w w3 : World} {o o2 : Obj} (hb : Below (w.heap.size + 1) ((w.alloc o).alloc o2) w3) : Below (w.alloc o).heap.size (w.alloc o) w3 := by
  have hs : (w.alloc o).heap.size = w.heap.size + 1 := by simp
  rw [hs]
  exact ((Below.refl _ _).alloc (by rw [hs]; exact Nat.le_refl _) _).trans hb
theorem pBlk.free {g : Nat} {cs : Array Value} {t : TypeId} {w : World} (h : pBlk g cs t w) (i : Nat) : w.frozen? ⟨g, i, none⟩ = false := by
  unfold pBlk at h
  simp [World.frozen?, h]
theorem pBlk.lt {g : Nat} {cs : Array Value} {t : TypeId} {w : World} (h : pBlk g cs t w) : g < w.heap.size := (Array.getElem?_eq_some_iff.1 h).1
theorem ownB_bytes2 (w : World) (o : Obj) (n : Nat) (l : List UInt8) (hn : l.length ≤ n) (hm : n ≤ maxLen) : OwnB ((w.alloc o).alloc (.cells (bytesRow (strL l) n) 5 ((bytesRow (strL l) n).size, (bytesRow (strL l) n).size + 1))).drew (w.heap.size + 1) (w.heap.size + 1) n l := by
  have hs : (w.alloc o).heap.size = w.heap.size + 1 := by simp
  have h := ownB_bytes (w.alloc o) (w.heap.size + 1) n l (by rw [hs]; exact Nat.le_refl _) hn hm
  rw [hs] at h
  exact h
theorem below_app2 {w w3 : World} {o o2 : Obj} (hb : Below (w.heap.size + 1) ((w.alloc o).alloc o2).drew w3) : Below (w.alloc o).heap.size (w.alloc o) w3 := by
  have hs : (w.alloc o).heap.size = w.heap.size + 1 := by simp
  rw [hs]
  exact (((Below.refl _ _).alloc (by rw [hs]; exact Nat.le_refl _) _).drew).trans hb
theorem grownCap_few (w : World) (n : Nat) (t : TypeId) (h : n ≤ 140737488355328) : n ≤ grownCap w n 0 t ∧ grownCap w n 0 t ≤ maxLen := ⟨grownCap_ge _ _ _ _, grownCap_le_maxLen _ _ _ _ (by unfold maxLen; omega)⟩
end Go.Proofs.YtdlkfnkmdlcekaaGreatDoor
namespace Go.Proofs.YtdlkfnkmdlcekaaGreatDoor
open Go.RowKit Go.Cal
/-- So many nines are worth much. -/
theorem nines (n : Nat) : numV (List.replicate n 57) + 1 = 10 ^ n := by
  induction n with
  | zero => rfl
  | succ n ih =>
    rw [List.replicate_succ', numV_snoc, Nat.pow_succ]
    have : (57 : UInt8).toNat - 48 = 9 := rfl
    rw [this]
    omega
theorem nines_dig (n : Nat) : ∀ c ∈ List.replicate n (57 : UInt8), isDig c = true := fun c hc => by
  rw [List.eq_of_mem_replicate hc]; decide
theorem nines_far (n : Nat) (h : 4 ≤ n) : 9999 ≤ min (numV (List.replicate n 57)) 1125899906842624 := by
  have h1 := nines n
  have h2 : 10 ^ 4 ≤ 10 ^ n := Nat.pow_le_pow_right (by omega) h
  omega
/-- The exponent's text. -/
def farE (less : Bool) (n : Nat) : List UInt8 := (if less then [101, 45] else [101]) ++ List.replicate n 57
theorem farE_ok (less : Bool) (n : Nat) (h : 4 ≤ n) : ExpT (farE less n) ∧ (less = false → 9999 ≤ expV 1125899906842624 (farE less n)) ∧ (less = true → expV 1125899906842624 (farE less n) ≤ -9999) := by
  have hd := nines_dig n
  have h0 : List.replicate n (57 : UInt8) ≠ [] := by
    intro e
    have := congrArg List.length e
    simp at this; omega
  have hf := nines_far n h
  cases less
  · refine ⟨ExpT.plain (.inl rfl) hd h0, fun _ => ?_, fun e => by cases e⟩
    show 9999 ≤ expV 1125899906842624 (101 :: List.replicate n 57)
    rw [expV_plain hd h0]
    omega
  · refine ⟨ExpT.sign (.inl rfl) (.inr rfl) hd h0, (fun e => by cases e), fun _ => ?_⟩
    show expV 1125899906842624 (101 :: 45 :: List.replicate n 57) ≤ -9999
    rw [expV_less hd]
    omega
theorem far_a (less : Bool) (n : Nat) (h : 4 ≤ n) (c : UInt8) (hc : isDig c = true) (hc0 : c ≠ 48) : itemOf (c :: farE less n) = ⟨1, false, 0, 0, if less then -1 else 1, false⟩ := by
  obtain ⟨he, h1, h2⟩ := farE_ok less n h
  obtain ⟨n1, n2, n3, n4⟩ := num_plain (d := [c]) (r := farE less n) (fun x hx => by simp at hx; subst hx; exact hc) (by simp) he
  obtain ⟨t1, t2⟩ := text_pos (t := c :: farE less n) n1 1125899906842624
  unfold itemOf
  rw [if_pos t1, t2]
  have n2' : numD (c :: farE less n) = [c] := n2
  have n3' : numB (c :: farE less n) = 0 := n3
  have n4' : numR (c :: farE less n) = farE less n := n4
  rw [n2', n3', n4']
  have ha : trL [c] = [c] := List.dropWhile_cons_of_neg (by simpa using hc0)
  have hb : trR [c] = [c] := trR_self (by simpa using hc0)
  unfold itemV
  simp only [ha, hb]
  rw [if_neg (by simp)]
  cases less
  · have := h1 rfl
    rw [if_pos (by simp; omega)]; rfl
  · have := h2 rfl
    rw [if_neg (by simp; omega), if_pos (by simp; omega)]; rfl
theorem far_b (less : Bool) (n : Nat) (h : 4 ≤ n) : itemOf ([45, 48, 46, 48, 48] ++ farE less n) = ⟨1, true, 0, 0, 0, false⟩ := by
  obtain ⟨he, _, _⟩ := farE_ok less n h
  obtain ⟨n1, n2, n3, n4⟩ := num_point (d := [48]) (d2 := [48, 48]) (r := farE less n) (by decide) (by decide) (.inl (by simp)) he
  obtain ⟨t1, t2⟩ := text_neg (t := [48] ++ 46 :: ([48, 48] ++ farE less n)) n1 1125899906842624
  have e : [45, 48, 46, 48, 48] ++ farE less n = 45 :: ([48] ++ 46 :: ([48, 48] ++ farE less n)) := rfl
  unfold itemOf
  rw [e, if_pos t1, t2, n2]
  rfl
/-- The low bits of an int. -/
theorem i64_and16 (n : Int) : bits .and .i64 n 65535 = n % 65536 := by
  have h127 : (BitVec.ofInt 64 65535).toNat = 2 ^ 16 - 1 := by decide
  have key : (BitVec.ofInt 64 n &&& BitVec.ofInt 64 65535).toNat = (n % ((2 ^ 64 : Nat) : Int)).toNat % 2 ^ 16 := by
    rw [BitVec.toNat_and, BitVec.toNat_ofInt, h127, Nat.and_two_pow_sub_one_eq_mod]
  show IntKind.i64.wrap ((BitVec.ofInt 64 n &&& BitVec.ofInt 64 65535).toNat : Nat) = n % 65536
  rw [key, IntKind.wrap_i64]
  omega
theorem and_low (n : Int) : ∃ m : Nat, bits .and .i64 n 65535 = (m : Int) ∧ m ≤ 65535 := ⟨(n % 65536).toNat, by rw [i64_and16]; omega, by omega⟩
theorem farE_len (less : Bool) (n : Nat) : (farE less n).length ≤ n + 2 := by unfold farE; cases less <;> simp <;> omega
theorem farE_snoc (less : Bool) (n : Nat) : strL (farE less n) ++ ⟨#[57]⟩ = strL (farE less (n + 1)) := by
  unfold farE strL
  apply ByteArray.ext
  apply Array.toList_inj.1
  simp [List.replicate_succ']
theorem conv_one (W : World) (g : Nat) (c : UInt8) (hc : W.cell? ⟨g, 0, none⟩ = some (.int .u8 (c.toNat : Int))) : (convert 66 9 (.slice (some ⟨g, 0, none⟩) 1 1)).run Tryz.prog W = .ok (.string (strL [c])) W :=
  run_convert_bytes_back (P := Tryz.prog) W 66 9 5 ⟨g, 0, none⟩ 1 [c] sunder_bytes sunder_byte sunder_str (fun j hj => by
    have : j = 0 := by simpa using hj
    subst this
    rw [Lib.add_plain]
    exact hc)
theorem pT_zero {A : Option Addr} {n c k : Nat} {w : World} (h : pT (.slice A n c) k 0 w) : n = 0 := by
  obtain ⟨A', c', zs, he, _, _, _, _, hn⟩ := h
  injection he with e1 e2 e3
  rw [e2]
  exact Nat.le_zero.1 (hn.length_le (by omega))
theorem strL_app (a b : List UInt8) : strL a ++ strL b = strL (a ++ b) := by
  unfold strL
  apply ByteArray.ext
  simp
end Go.Proofs.YtdlkfnkmdlcekaaGreatDoor
namespace Go.Proofs.YtdlkfnkmdlcekaaGreatDoor
open Go.RowKit Go.Cal
theorem i64_low (n : Int) (k : Nat) (hk : k ≤ 62) : bits .and .i64 n ((2 ^ k - 1 : Nat) : Int) = n % ((2 ^ k : Nat) : Int) := by
  have hp : 2 ^ k ≤ 2 ^ 62 := Nat.pow_le_pow_right (by omega) hk
  have hp0 : 0 < 2 ^ k := Nat.pow_pos (by omega)
  have h127 : (BitVec.ofInt 64 ((2 ^ k - 1 : Nat) : Int)).toNat = 2 ^ k - 1 := by
    rw [BitVec.ofInt_natCast, BitVec.toNat_ofNat, Nat.mod_eq_of_lt (by omega)]
  have key : (BitVec.ofInt 64 n &&& BitVec.ofInt 64 ((2 ^ k - 1 : Nat) : Int)).toNat = (n % ((2 ^ 64 : Nat) : Int)).toNat % 2 ^ k := by
    rw [BitVec.toNat_and, BitVec.toNat_ofInt, h127, Nat.and_two_pow_sub_one_eq_mod]
  show IntKind.i64.wrap ((BitVec.ofInt 64 n &&& BitVec.ofInt 64 ((2 ^ k - 1 : Nat) : Int)).toNat : Nat) = _
  have hm : (n % ((2 ^ 64 : Nat) : Int)).toNat % 2 ^ k < 2 ^ k := Nat.mod_lt _ hp0
  have hn : 0 ≤ n % ((2 ^ 64 : Nat) : Int) := Int.emod_nonneg _ (by decide)
  have hd : ((2 ^ k : Nat) : Int) ∣ ((2 ^ 64 : Nat) : Int) := Int.natCast_dvd_natCast.2 (Nat.pow_dvd_pow 2 (by omega))
  rw [key, IntKind.wrap_i64]
  rw [← Int.emod_emod_of_dvd n hd]
  generalize n % ((2 ^ 64 : Nat) : Int) = y at hn hm
  obtain ⟨z, rfl⟩ := Int.eq_ofNat_of_zero_le hn
  simp only [Int.toNat_natCast] at hm ⊢
  rw [← Int.natCast_emod]
  omega
theorem and_15 (n : Int) : ∃ m : Nat, bits .and .i64 n 15 = (m : Int) ∧ m ≤ 15 := ⟨(n % 16).toNat, by have := i64_low n 4 (by omega); simp at this; rw [this]; omega, by omega⟩
theorem and_3 (n : Int) : ∃ m : Nat, bits .and .i64 n 3 = (m : Int) ∧ m ≤ 3 := ⟨(n % 4).toNat, by have := i64_low n 2 (by omega); simp at this; rw [this]; omega, by omega⟩
theorem strL_cut (l : List UInt8) (n : Nat) : (strL l).extract 0 n = strL (l.take n) := by
  unfold strL
  apply ByteArray.ext
  apply Array.toList_inj.1
  rw [ByteArray.data_extract, Array.toList_extract]
  simp [List.extract_eq_take_drop]
/-- Digits out of bytes. -/
def digT (l : List UInt8) (i : Nat) : List UInt8 := (l.take i).map fun x => UInt8.ofNat (48 + x.toNat % 10)
theorem digT_len (l : List UInt8) (i : Nat) : (digT l i).length ≤ i := by unfold digT; rw [List.length_map, List.length_take]; omega
theorem digT_digs (l : List UInt8) (i : Nat) : ∀ c ∈ digT l i, isDig c = true := fun c hc => by
  unfold digT at hc
  obtain ⟨x, _, rfl⟩ := List.mem_map.1 hc
  exact isDig_ofNat (by omega)
theorem digT_step (l : List UInt8) (i : Nat) (h : i < l.length) : strL (digT l i) ++ strL [UInt8.ofNat (48 + (l.getD i 0).toNat % 10)] = strL (digT l (i + 1)) := by
  rw [strL_app]
  unfold digT
  rw [take_snocB l i h, List.map_append]
  rfl
theorem zeroT_step (i : Nat) : strL (List.replicate i 48) ++ ⟨#[48]⟩ = strL (List.replicate (i + 1) 48) := by
  have := strL_app (List.replicate i 48) [48]
  rw [← List.replicate_succ'] at this
  exact this
end Go.Proofs.YtdlkfnkmdlcekaaGreatDoor
