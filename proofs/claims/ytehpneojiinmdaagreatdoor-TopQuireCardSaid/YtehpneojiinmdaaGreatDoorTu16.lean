/- Four cells stored into a part of a block, all else kept: a law at the operation. Conditions: none. -/
/- How digits are written, walked: Right, joined, zeros. Condition: the table of powers reads as it is laid. -/
/- How digits are written, walked: Layout. Condition: the table of powers reads as it is laid. -/
import Derived.Test.YtehpneojiinmdaaGreatDoorTu15
import Derived.Test.YtehpneojiinmdaaGreatDoorTu02
import Derived.Test.YtehpneojiinmdaaGreatDoorTu14
import Derived.Lib.AppendIntMem
namespace Go.Proofs.YtehpneojiinmdaaGreatDoor
open Go.RowKit Go.Cal
theorem noU_set {cs : Array Value} {i : Nat} {a : Value} (h : ∀ x ∈ cs.toList, ∀ n, x ≠ .int .u64 n) (ha : ∀ n, a ≠ .int .u64 n) : ∀ x ∈ (cs.setIfInBounds i a).toList, ∀ n, x ≠ .int .u64 n := by
  intro x hx
  rw [Array.toList_setIfInBounds] at hx
  rcases List.mem_or_eq_of_mem_set hx with h1 | h1
  · exact h x h1
  · subst h1; exact ha
theorem wp_store_part4 {P : Program} {o : Oper} {a : Act} {w : World} {K : Act → World → Prop} {Q : Exit → Act → World → Prop} (ty : TypeId) (x y : Operand) (ho : o.op = .store ty x y)
    (g off : Nat) (c0 c1 c2 c3 : Value) (hx : a.eval x = .pointer (some ⟨g, off, none⟩)) (hy : a.eval y = .agg #[c0, c1, c2, c3])
    (t : TypeId) (old : Array Value) (hg : pBlk g old t w) (hoff : off + 4 ≤ old.size) (hi : (P.info? ty).map (·.size) = some 4) (h1 : (#[c0, c1, c2, c3] : Array Value).all (·.oneCell') = true)
    (h : K (a.put o.dst undef) ((((w.setCell ⟨g, off, none⟩ c0).setCell ⟨g, off + 1, none⟩ c1).setCell ⟨g, off + 1 + 1, none⟩ c2).setCell ⟨g, off + 1 + 1 + 1, none⟩ c3)) : o.wp P a w K Q := by
  have hsome : ∀ j, j < [c0, c1, c2, c3].length → (w.cell? ⟨g, off + 0 + j, none⟩).isSome = true := fun j hj => by
    rw [cell_of_row w g _ _ _ _ hg, Array.getElem?_eq_getElem (by simp at hj; omega)]; rfl
  have hfree : ∀ j, j < [c0, c1, c2, c3].length → w.frozen? ⟨g, off + 0 + j, none⟩ = false := fun j hj => hg.free _
  have hst := run_storeCells_cells (P := P) g off [c0, c1, c2, c3] 0 w hsome hfree (fun v hv => (Array.all_eq_true_iff_forall_mem.1 h1) v (by simpa using hv))
  unfold Oper.wp execOp
  cases hq : P.info? ty with
  | none => simp [hq] at hi
  | some i =>
    have hs : 4 = i.size := by simp [hq] at hi; omega
    have hrun : (storeVar ty ⟨g, off, none⟩ (.agg #[c0, c1, c2, c3])).run P w = .ok () (w.setCells g (off + 0) [c0, c1, c2, c3]) := by
      simp [storeVar, sizeOf, typeInfo, hq, Value.cells, ← hs, hst]
    simp only [ho, hx, hy, Instr.storeAt, Instr.sureAddr, Sem.run_bind, Sem.run_pure, Result.andThen_ok, hrun]
    exact h
theorem wpList_store_part4 {P : Program} (w : World) {ops : Array Oper} {rest : List Oper} {o : Oper} {a : Act} {Q : Exit → Act → World → Prop}
    (hg : o.guard = none) (t : TypeId) (p x : Operand) (hop : o.op = Op.store t p x) (g off : Nat) (c0 c1 c2 c3 : Value) (old new : Array Value) (t' : TypeId)
    (hp : a.eval p = .pointer (some ⟨g, off, none⟩)) (hx : a.eval x = .agg #[c0, c1, c2, c3]) (hb : pBlk g old t' w) (hoff : off + 4 ≤ old.size)
    (hi : (P.info? t).map (·.size) = some 4) (h1 : (#[c0, c1, c2, c3] : Array Value).all (·.oneCell') = true) (hy : ∀ x ∈ old.toList, ∀ n, x ≠ .int .u64 n)
    (n0 : ∀ n, c0 ≠ .int .u64 n) (n1 : ∀ n, c1 ≠ .int .u64 n) (n2 : ∀ n, c2 ≠ .int .u64 n)
    (hnew : (((old.setIfInBounds off c0).setIfInBounds (off + 1) c1).setIfInBounds (off + 1 + 1) c2).setIfInBounds (off + 1 + 1 + 1) c3 = new)
    (hK : ∀ w' : World, pBlk g new t' w' → Below g w w' → w'.heap.size = w.heap.size → (∀ v k N, IsT w v k N → IsT w' v k N) → (∀ h cs' t'', h ≠ g → pBlk h cs' t'' w → pBlk h cs' t'' w') → wpList P ops Q rest (a.put o.dst undef) w') :
    wpList P ops Q (o :: rest) a w := by
  have q1 := pBlk.setX hb off c0
  have q2 := pBlk.setX q1 (off + 1) c1
  have q3 := pBlk.setX q2 (off + 1 + 1) c2
  have q4 := pBlk.setX q3 (off + 1 + 1 + 1) c3
  have m1 := noU_set (i := off) hy n0
  have m2 := noU_set (i := off + 1) m1 n1
  have m3 := noU_set (i := off + 1 + 1) m2 n2
  have hoth : ∀ (W : World) (i k : Nat) (v : Value), g ≠ k → (W.setCell ⟨g, i, none⟩ v).heap[k]? = W.heap[k]? := by
    intro W i k v hk
    unfold World.setCell
    simp only [Array.getElem?_modify]
    rw [if_neg hk]
  refine wpList_plain hg fun _ hK' => wp_store_part4 t p x hop g off c0 c1 c2 c3 hp hx t' old hb hoff hi h1 (hK' _ _ (hK _ (hnew ▸ q4) ?_ ?_ ?_ ?_))
  · exact ((((Below.refl _ _).setCell (p := ⟨g, off, none⟩) (Nat.le_refl _) _).setCell (p := ⟨g, off + 1, none⟩) (Nat.le_refl _) _).setCell (p := ⟨g, off + 1 + 1, none⟩) (Nat.le_refl _) _).setCell (p := ⟨g, off + 1 + 1 + 1, none⟩) (Nat.le_refl _) _
  · simp
  · intro v k N h
    exact IsT.apartX (IsT.apartX (IsT.apartX (IsT.apartX h hb hy) q1 m1) q2 m2) q3 m3
  · intro h cs' t'' hne hh
    unfold pBlk at hh ⊢
    rw [hoth _ _ _ _ (fun e => hne e.symm), hoth _ _ _ _ (fun e => hne e.symm), hoth _ _ _ _ (fun e => hne e.symm), hoth _ _ _ _ (fun e => hne e.symm)]
    exact hh
theorem three_row {w : World} {g : Nat} {t : TypeId} {b0 b1 : Bool} {x0 x1 : Option Addr} {y0 z0 y1 z1 : Nat} {c0 c1 : Int} (p0 : pBlk g #[.bool b0, .slice x0 y0 z0, .int .i64 c0] t w) :
    ∃ w', ((w.setCell ⟨g, 0, none⟩ (.bool b1)).setCell ⟨g, 1, none⟩ (.slice x1 y1 z1)).setCell ⟨g, 2, none⟩ (.int .i64 c1) = w' ∧ pBlk g #[.bool b1, .slice x1 y1 z1, .int .i64 c1] t w' ∧ (∀ v k N, IsT w v k N → IsT w' v k N) ∧ (∀ B, B ≤ g → Below B w w') := by
  have no3 : ∀ (a b c : Value), (∀ n, a ≠ .int .u64 n) → (∀ n, b ≠ .int .u64 n) → (∀ n, c ≠ .int .u64 n) → ∀ x ∈ (#[a, b, c] : Array Value).toList, ∀ n, x ≠ .int .u64 n := by
    intro a b c ha hb hc x hx
    simp at hx
    rcases hx with rfl | rfl | rfl <;> assumption
  have q1 : pBlk g #[.bool b1, .slice x0 y0 z0, .int .i64 c0] t (w.setCell ⟨g, 0, none⟩ (.bool b1)) := pBlk.setX p0 0 (.bool b1)
  have q2 : pBlk g #[.bool b1, .slice x1 y1 z1, .int .i64 c0] t ((w.setCell ⟨g, 0, none⟩ (.bool b1)).setCell ⟨g, 1, none⟩ (.slice x1 y1 z1)) := pBlk.setX q1 1 (.slice x1 y1 z1)
  have q3 : pBlk g #[.bool b1, .slice x1 y1 z1, .int .i64 c1] t (((w.setCell ⟨g, 0, none⟩ (.bool b1)).setCell ⟨g, 1, none⟩ (.slice x1 y1 z1)).setCell ⟨g, 2, none⟩ (.int .i64 c1)) := pBlk.setX q2 2 (.int .i64 c1)
  refine ⟨_, rfl, q3, fun v k N h => ?_, fun B hB => ?_⟩
  · exact IsT.apartX (IsT.apartX (IsT.apartX h p0 (no3 _ _ _ (by simp) (by simp) (by simp))) q1 (no3 _ _ _ (by simp) (by simp) (by simp))) q2 (no3 _ _ _ (by simp) (by simp) (by simp))
  · exact (((Below.refl _ _).setCell (p := ⟨g, 0, none⟩) hB _).setCell (p := ⟨g, 1, none⟩) hB _).setCell (p := ⟨g, 2, none⟩) hB _
end Go.Proofs.YtehpneojiinmdaaGreatDoor
namespace Go.Proofs.YtehpneojiinmdaaGreatDoor
open Go.RowKit Go.Cal
/-- The last digit of a numeral. -/
theorem dec_end {d : Nat} : (Lib.decDigits d).getD ((Lib.decDigits d).length - 1) 0 = UInt8.ofNat (48 + d % 10) := by
  obtain ⟨r, c, h1⟩ := snoc_of (dec_ne d)
  have h2 := numV_dec d
  have hc : isDig c = true := dec_digs d c (by rw [h1]; simp)
  unfold isDig at hc
  simp only [Bool.and_eq_true, decide_eq_true_eq] at hc
  rw [h1, numV_snoc] at h2
  rw [h1]
  have e : (r ++ [c]).getD ((r ++ [c]).length - 1) 0 = c := by simp [List.getD_eq_getElem?_getD]
  rw [e]
  refine UInt8.toNat_inj.1 ?_
  rw [UInt8.toNat_ofNat']
  omega
/-- Which digits are right, of a number of few words. -/
theorem dright_iff {N : Nat} {k : Int} (h0 : 0 < N) (hk : -5000 ≤ k ∧ k ≤ 5000) : DRight N k ↔ (Lib.decDigits N).length ≤ 2000 ∧ N % 10 ≠ 0 := by
  unfold DRight
  constructor
  · rintro (⟨h, _⟩ | ⟨_, h2, h3, _⟩)
    · omega
    · exact ⟨h3, h2⟩
  · rintro ⟨h3, h2⟩
    exact .inr ⟨h0, h2, h3, hk.1, hk.2⟩
theorem dec_bigG {N e f : Nat} (h : (Lib.decDigits N).length ≤ e) (hf : 4 * e ≤ 64 * f) : N < 18446744073709551616 ^ f := by
  have h2 := numV_lt (Lib.decDigits N) (dec_digs N)
  rw [numV_dec] at h2
  have h1 : 10 ^ (Lib.decDigits N).length ≤ 10 ^ e := Nat.pow_le_pow_right (by decide) h
  have h3 : 10 ^ e ≤ 16 ^ e := Nat.pow_le_pow_left (by decide) _
  have h4 : (16 : Nat) ^ e = 2 ^ (4 * e) := by rw [Nat.pow_mul]
  have h5 : (18446744073709551616 : Nat) ^ f = 2 ^ (64 * f) := by rw [Nat.pow_mul]
  have h6 : 2 ^ (4 * e) ≤ 2 ^ (64 * f) := Nat.pow_le_pow_right (by decide) hf
  omega
theorem dec_big {N : Nat} (h : (Lib.decDigits N).length ≤ 2000) : N < 18446744073709551616 ^ 128 := dec_bigG h (by decide)
set_option maxRecDepth 100000 in
set_option maxHeartbeats 1000000 in
theorem right_t {w : World} {v : Value} {N : Nat} (neg : Bool) (k : Int) (hT : Tab10 w) (h : IsT w v 128 N) :
    Calls Tryz.prog 82 #[.agg #[.bool neg, v, .int .i64 k]] w fun e w' => e = .returned (.bool (decide (DRight N k))) ∧ Below w.heap.size w w' := by
  have hN := h.isN
  obtain ⟨A, c, zs, rfl, rd, hc, hcm, hl, nr⟩ := h
  have hb0 := (Below.refl w.heap.size w).alloc (Nat.le_refl _) (.cells #[.bool neg, .slice A zs.length c, .int .i64 k] 81)
  by_cases h0 : zs = []
  · subst h0
    obtain rfl : N = 0 := by rw [← nr.val]; rfl
    by_cases hk : k = 0
    · subst hk
      have hd : decide (DRight 0 0) = true := by decide
      rw [hd]
      go_enter Tryz.func82, Tryz.ntmps82
      go_wp2
      go_ret
      exact ⟨rfl, hb0⟩
    · have hd : decide (DRight 0 k) = false := by
        refine decide_eq_false ?_
        rintro (⟨_, h⟩ | ⟨h, _⟩)
        · exact hk h
        · omega
      rw [hd]
      have hk' : (k == 0) = false := by simpa using hk
      go_enter Tryz.func82, Tryz.ntmps82
      go_wp2
      go_ret
      exact ⟨rfl, hb0⟩
  · have hpos := List.length_pos_iff.2 h0
    obtain ⟨b, off, rfl, hbB, hcell⟩ := rd.at (i := 0) hpos
    obtain ⟨n, hn⟩ : ∃ n, zs.length = n := ⟨_, rfl⟩
    have hlast := nr.top h0
    have hx := hcell (n - 1) (by omega)
    have hxv : zs.getD (n - 1) 0 = zs.getLast h0 := by
      rw [List.getLast_eq_getElem, List.getD_eq_getElem?_getD, List.getElem?_eq_getElem (by omega)]
      simp [hn]
    rw [hxv] at hx
    obtain ⟨x, hxx⟩ : ∃ x, zs.getLast h0 = x := ⟨_, rfl⟩
    rw [hxx] at hx hlast
    have hN0 : 0 < N := by
      have := vl_pos (b := 18446744073709551616) nr.top h0
      rw [nr.val] at this
      exact Nat.lt_of_lt_of_le (Nat.pow_pos (by decide)) this
    rw [hn] at hN hc hl hb0 ⊢
    have hx' : (w.alloc (.cells #[.bool neg, .slice (some ⟨b, off, none⟩) n c, .int .i64 k] 81)).cell? ⟨b, off + (n - 1), none⟩ = some (.int .u64 (x : Nat)) := by
      rw [World.cell?_alloc_lt _ _ _ hbB]; exact hx
    have hT' := hT.below hb0
    have hN' := hN.below hb0
    have hx0 : ((x : Int) == 0) = false := by simpa using hlast
    clear hcell hxv hxx nr rd
    by_cases hk1 : k < -5000
    · have hd : decide (DRight N k) = false := decide_eq_false (by unfold DRight; omega)
      rw [hd]
      go_enter Tryz.func82, Tryz.ntmps82
      go_wp2
      go_ret
      exact ⟨rfl, hb0⟩
    · by_cases hk2 : 5000 < k
      · have hd : decide (DRight N k) = false := decide_eq_false (by unfold DRight; omega)
        rw [hd]
        go_enter Tryz.func82, Tryz.ntmps82
        go_wp2
        go_ret
        exact ⟨rfl, hb0⟩
      · have hi := dright_iff hN0 (k := k) ⟨by omega, by omega⟩
        have htx := stext_t hT' hN' (by decide)
        rw [show (⟨(Lib.decDigits N).toArray⟩ : ByteArray) = strL (Lib.decDigits N) from rfl] at htx
        obtain ⟨S, hS⟩ : ∃ S, strL (Lib.decDigits N) = S := ⟨_, rfl⟩
        obtain ⟨z, hz⟩ : ∃ z, (Lib.decDigits N).length = z := ⟨_, rfl⟩
        have hsz : S.size = z := by rw [← hS, strL_size, hz]
        have hz0 : 0 < z := by rw [← hz]; exact List.length_pos_iff.2 (dec_ne N)
        have hge : ∀ h : z - 1 < S.size, S[z - 1] = UInt8.ofNat (48 + N % 10) := fun h => by
          subst hS
          rw [strL_get, ← hz]
          exact dec_end
        rw [hS] at htx
        rw [hz] at hi
        replace htx := Lib.hid htx
        replace hS := Lib.hid hS
        replace hz := Lib.hid hz
        by_cases hl2 : z ≤ 2000
        · by_cases h10 : N % 10 = 0
          · have hd : decide (DRight N k) = false := decide_eq_false fun h => (hi.1 h).2 h10
            rw [hd]
            rw [h10] at hge
            go_enter Tryz.func82, Tryz.ntmps82
            go_wp2_with fail
            refine htx.out.mono ?_
            rintro e w1 ⟨rfl, hb1⟩
            go_wp2
            go_ret
            exact ⟨rfl, chain hb0 hb1⟩
          · have hd : decide (DRight N k) = true := decide_eq_true (hi.2 ⟨hl2, h10⟩)
            rw [hd]
            have hne : ((48 + (N : Int) % 10) % 256 != 48) = true := by
              rw [bne_iff_ne]
              omega
            go_enter Tryz.func82, Tryz.ntmps82
            go_wp2_with fail
            refine htx.out.mono ?_
            rintro e w1 ⟨rfl, hb1⟩
            go_wp2
            go_ret
            exact ⟨rfl, chain hb0 hb1⟩
        · have hd : decide (DRight N k) = false := decide_eq_false fun h => hl2 (hi.1 h).1
          rw [hd]
          go_enter Tryz.func82, Tryz.ntmps82
          go_wp2_with fail
          refine htx.out.mono ?_
          rintro e w1 ⟨rfl, hb1⟩
          go_wp2
          go_ret
          exact ⟨rfl, chain hb0 hb1⟩
theorem zeros_any (n : Int) (h0 : 0 ≤ n) (h1 : n ≤ 100000) (w : World) :
    Calls Tryz.prog 85 #[.int .i64 n] w fun e w' => e = .returned (.string (strL (List.replicate n.toNat 48))) ∧ Below w.heap.size w w' := by
  obtain ⟨c, rfl⟩ := Int.eq_ofNat_of_zero_le h0
  have hrep := Lib.hid (Tryz.strings_Repeat ⟨#[48]⟩ c w (by omega) (by show 1 * _ ≤ _; omega))
  have he : (⟨(Lib.repeatL [48] c).toArray⟩ : ByteArray) = strL (List.replicate c 48) := by rw [repeat_one]; rfl
  go_enter Tryz.func85, Tryz.ntmps85
  go_wp2_with fail
  refine hrep.out.mono ?_
  rintro e w1 ⟨rfl, hb⟩
  go_wp2
  go_ret
  refine ⟨?_, hb⟩
  rw [Int.toNat_natCast, ← he]
  rfl
theorem info_ts : (Tryz.prog.info? 9).map (fun i => (i.zero, i.size, i.bytes)) = some (some (.string ⟨#[]⟩), 1, 16) := by kernel_rfl
theorem under_tss : Tryz.prog.underlying 178 = some (.slice 9) := by kernel_rfl
theorem join_flat (l : List (List UInt8)) : (⟨(Lib.join ((l.map strL).map (·.data.toList)) (⟨#[]⟩ : ByteArray).data.toList).toArray⟩ : ByteArray) = strL l.flatten := by
  have h1 : (l.map strL).map (·.data.toList) = l := by
    rw [List.map_map]
    refine (List.map_congr_left fun x _ => ?_).trans (List.map_id l)
    rfl
  have h2 : ∀ l : List (List UInt8), Lib.join l [] = l.flatten := by
    intro l
    match l with
    | [] => rfl
    | x :: r =>
      rw [Lib.join_cons, Lib.joinTail]
      have : (r.map fun x => [] ++ x) = r := by simp
      simp
  rw [h1]
  show (⟨(Lib.join l []).toArray⟩ : ByteArray) = _
  rw [h2]
  rfl
/-- The join of texts that stand in a row. -/
theorem join_row {w : World} {b n c : Nat} {l : List (List UInt8)} (hn : l.length = n) (hc : n ≤ c) (hn2 : n ≤ 100) (hb : b < w.heap.size) (hs : l.flatten.length ≤ 1000000) (hcells : ∀ j x, l[j]? = some x → w.cell? ⟨b, j, none⟩ = some (.string (strL x))) :
    Calls Tryz.prog 133 #[.slice (some ⟨b, 0, none⟩) n c, .string ⟨#[]⟩] w fun e w' => e = .returned (.string (strL l.flatten)) ∧ Below w.heap.size w w' := by
  subst hn
  have h := Tryz.strings_Join b 0 c (l.map strL) ⟨#[]⟩ w (fun j x hj => by
    rw [List.getElem?_map] at hj
    obtain ⟨y, hy, rfl⟩ := Option.map_eq_some_iff.1 hj
    rw [Nat.zero_add]
    exact hcells j y hy) hb (by rw [List.length_map]; omega) (by rw [List.length_map]; exact hc) (by
      have e := congrArg ByteArray.size (join_flat l)
      rw [strL_size] at e
      have e2 : (Lib.join ((l.map strL).map (·.data.toList)) (⟨#[]⟩ : ByteArray).data.toList).length = l.flatten.length := by
        rw [← e]
        show _ = (List.toArray _).size
        rw [List.size_toArray]
      rw [e2]; omega)
  rw [List.length_map, join_flat] at h
  exact h
set_option maxRecDepth 100000 in
set_option maxHeartbeats 1000000 in
theorem joined_any (neg : Bool) {w : World} {b n : Nat} {l : List (List UInt8)} (hn : l.length = n) (hn0 : 0 < n) (hn2 : n ≤ 10) (hb : b < w.heap.size) (hs : l.flatten.length ≤ 100000) (hcells : ∀ j x, l[j]? = some x → w.cell? ⟨b, j, none⟩ = some (.string (strL x))) :
    Calls Tryz.prog 83 #[.bool neg, .slice (some ⟨b, 0, none⟩) n n] w fun e w' => e = .returned (.string (strL ((if neg = true then [45] else []) ++ l.flatten))) ∧ Below w.heap.size w w' := by
  have hj := fun (w' : World) (hbw : Below w.heap.size w w') => join_row (w := w') (c := n) hn (Nat.le_refl _) (by omega) (Nat.lt_of_lt_of_le hb hbw.size) (by omega) (fun j x hj => (hbw.cell (p := ⟨b, j, none⟩) hb).trans (hcells j x hj))
  replace hj := Lib.hid hj
  cases neg
  · rw [if_neg (by decide), List.nil_append]
    go_enter Tryz.func83, Tryz.ntmps83
    go_wp2_with fail
    refine (hj.out _ (Below.refl _ _)).mono ?_
    rintro e w1 ⟨rfl, hb1⟩
    go_wp2
    go_ret
    exact ⟨rfl, hb1⟩
  · obtain ⟨i0, hi, hz0, hz1, hz2⟩ := info_parts info_ts
    rw [if_pos rfl]
    have hl1 : ([45] :: l).length = 1 + n := by rw [List.length_cons, hn, Nat.add_comm]
    go_enter Tryz.func83, Tryz.ntmps83
    go_wp2_with (at_builtin; refine wpList_append_grows _ rfl _ _ 178 rfl 9 i0 (.string ⟨#[]⟩) 1 16 under_tss hi hz0 hz1 hz2 rfl (by decide) (some ⟨w.heap.size, 0, none⟩) 1 1 [.string ⟨#[45]⟩] rfl (fun h => by cases h) rfl ?hold ⟨b, 0, none⟩ n n (l.map fun x => .string (strL x)) rfl ?c1 ?c2 ?c3 ?c4 ?c5 ?c6 ?_)
    case hold =>
      intro b' e j u hj
      injection e with e
      subst e
      match j, hj with
      | 0, hj =>
        injection hj with hj
        subst hj
        rw [Addr.add_lit]
        simp
      | j + 1, hj => simp at hj
    case c1 => rw [List.length_map, hn, Nat.mul_one]
    case c2 =>
      intro j u hj
      rw [List.getElem?_map] at hj
      obtain ⟨x, hx, rfl⟩ := Option.map_eq_some_iff.1 hj
      rw [Addr.add_lit, Nat.zero_add, World.cell?_alloc_lt _ _ _ hb]
      exact hcells j x hx
    case c3 =>
      intro u hu
      simp only [List.mem_map] at hu
      obtain ⟨x, _, rfl⟩ := hu
      rfl
    case c4 => omega
    case c5 => unfold maxLen; omega
    case c6 => omega
    intro v' w1 hown hgr
    obtain ⟨_, ⟨_, h1⟩ | ⟨g, cap, cur, rfl, hg, hw, hnc, hm, hs', ht⟩⟩ := hown
    · omega
    · have hcs : ∀ j x, ([45] :: l)[j]? = some x → w1.cell? ⟨g, j, none⟩ = some (.string (strL x)) := by
        intro j x hj
        have hjl : j < 1 + n := by rw [← hl1]; exact (List.getElem?_eq_some_iff.1 hj).1
        have e3 : cur.toList[j]? = some (.string (strL x)) := by
          have e4 : (([45] :: l).map fun x => Value.string (strL x))[j]? = some (.string (strL x)) := by rw [List.getElem?_map, hj]; rfl
          have e5 : (Value.string ⟨#[45]⟩ :: l.map fun x => Value.string (strL x)) = (([45] :: l).map fun x => Value.string (strL x)) := rfl
          rw [← e4, ← e5, ← ht, List.getElem?_take_of_lt (by omega)]
        simp [World.cell?, hw, ← Array.getElem?_toList, e3]
      have hlt := (Array.getElem?_eq_some_iff.1 hw).1
      have hbw : Below w.heap.size w w1 := ((Below.refl _ _).alloc (Nat.le_refl _) _).grown hgr (by simp) (fun j hj => by cases hj)
      have hjr := Lib.hid (join_row (w := w1) hl1 hnc (by omega) hlt (by rw [List.flatten_cons, List.length_append, List.length_cons, List.length_nil]; omega) hcs)
      clear hcs hw ht hgr
      go_wp2_with fail
      refine hjr.out.mono ?_
      rintro e w2 ⟨rfl, hb2⟩
      go_wp2
      go_ret
      exact ⟨rfl, chain hbw hb2⟩
theorem cell_lt {w : World} {a : Addr} {v : Value} (h : w.cell? a = some v) : a.block < w.heap.size := by
  rcases Nat.lt_or_ge a.block w.heap.size with h1 | h1
  · exact h1
  · unfold World.cell? at h
    rw [Array.getElem?_eq_none (by omega)] at h
    cases h
/-- The join of texts that the call itself lays. -/
theorem joined_lit (neg : Bool) (w : World) (l : List (List UInt8)) (C : Array Value) (hC : C = (l.map fun x => Value.string (strL x)).toArray) (n : Nat) (hn : l.length = n) (hn0 : 0 < n) (hn2 : n ≤ 10) (hs : l.flatten.length ≤ 100000) (t : List UInt8) (ht : (if neg = true then [45] else []) ++ l.flatten = t) :
    Calls Tryz.prog 83 #[.bool neg, .slice (some ⟨w.heap.size, 0, none⟩) n n] (w.alloc (.cells C 9)) fun e w' => e = .returned (.string (strL t)) ∧ Below w.heap.size w w' := by
  subst hC
  subst ht
  refine (joined_any neg (w := w.alloc (.cells _ 9)) hn hn0 hn2 (by simp) hs fun j x hj => ?_).mono ?_
  · rw [World.cell?_alloc_new, List.getElem?_toArray, List.getElem?_map, hj]
    rfl
  · rintro e w' ⟨rfl, hb⟩
    exact ⟨rfl, chain ((Below.refl _ _).alloc (Nat.le_refl _) _) hb⟩
theorem joined_litD (neg : Bool) (w : World) (l : List (List UInt8)) (C : Array Value) (hC : C = (l.map fun x => Value.string (strL x)).toArray) (n : Nat) (hn : l.length = n) (hn0 : 0 < n) (hn2 : n ≤ 10) (hs : l.flatten.length ≤ 100000) (t : List UInt8) (ht : (if neg = true then [45] else []) ++ l.flatten = t) :
    Calls Tryz.prog 83 #[.bool neg, .slice (some ⟨w.heap.size, 0, none⟩) n n] (w.alloc (.cells C 9)).drew fun e w' => e = .returned (.string (strL t)) ∧ Below w.heap.size w w' := by
  subst hC
  subst ht
  refine (joined_any neg (w := (w.alloc (.cells _ 9)).drew) hn hn0 hn2 (by show w.heap.size < (w.alloc _).heap.size; simp) hs fun j x hj => ?_).mono ?_
  · show (w.alloc _).cell? _ = _
    rw [World.cell?_alloc_new, List.getElem?_toArray, List.getElem?_map, hj]
    rfl
  · rintro e w' ⟨rfl, hb⟩
    exact ⟨rfl, chain ((Below.refl _ _).alloc (Nat.le_refl _) _).drew hb⟩
end Go.Proofs.YtehpneojiinmdaaGreatDoor
namespace Go.Proofs.YtehpneojiinmdaaGreatDoor
open Go.RowKit Go.Cal
/-- What Layout tells. -/
def lyR (neg : Bool) (N : Nat) (k : Int) : List UInt8 := if DRight N k then lyT neg N k else []
theorem itoa_any (n : Int) (h0 : -100000 ≤ n) (h1 : n ≤ 100000) (w : World) (hT : Tab10 w) : Calls Tryz.prog 86 #[.int .i64 n] w fun e w' => e = .returned (.string (strL (numT n))) ∧ Below w.heap.size w w' := by
  refine (Tryz.strconv_Itoa n (by omega) (by omega) w hT).mono ?_
  rintro e w' ⟨rfl, k, os, rfl⟩
  refine ⟨?_, grow_below _ (Nat.le_refl _)⟩
  have h1 : Lib.itoa n = numT n := by
    unfold Lib.itoa numT
    by_cases h : n < 0
    · rw [if_pos h, if_pos h]
    · rw [if_neg h, if_neg h]; congr 1; omega
  rw [h1]
  rfl
set_option maxRecDepth 100000 in
set_option maxHeartbeats 1000000 in
theorem layout_no {w : World} {v : Value} {N : Nat} (neg : Bool) (k : Int) (hT : Tab10 w) (h : IsT w v 128 N) (hd : ¬ DRight N k) :
    Calls Tryz.prog 42 #[.agg #[.bool neg, v, .int .i64 k]] w fun e w' => e = .returned (.string (strL [])) ∧ Below w.heap.size w w' := by
  have hb0 := (Below.refl w.heap.size w).alloc (Nat.le_refl _) (.cells #[.bool neg, v, .int .i64 k] 81)
  have hr := right_t neg k (hT.below hb0) (h.below hb0)
  rw [decide_eq_false hd] at hr
  obtain ⟨A, c, zs, rfl, -⟩ := h
  replace hr := Lib.hid hr
  go_enter Tryz.func42, Tryz.ntmps42
  go_wp2_with fail
  refine hr.out.mono ?_
  rintro e w1 ⟨rfl, hb1⟩
  go_wp2
  go_ret
  exact ⟨rfl, chain hb0 hb1⟩
theorem isT_zeroL {w : World} {v : Value} {m : Nat} (h : IsT w v m 0) : ∃ A c, v = .slice A 0 c := by
  obtain ⟨A, c, zs, rfl, _, _, _, _, nr⟩ := h
  have : zs = [] := by
    by_cases h0 : zs = []
    · exact h0
    · have h1 := vl_pos (b := 18446744073709551616) nr.top h0
      rw [nr.val] at h1
      have := Nat.pow_pos (n := zs.length - 1) (show 0 < 18446744073709551616 by decide)
      omega
  subst this
  exact ⟨A, c, rfl⟩
set_option maxRecDepth 100000 in
set_option maxHeartbeats 1000000 in
theorem layout_0 {w : World} {v : Value} (neg : Bool) (hT : Tab10 w) (h : IsT w v 128 0) :
    Calls Tryz.prog 42 #[.agg #[.bool neg, v, .int .i64 0]] w fun e w' => e = .returned (.string (strL (lyT neg 0 0))) ∧ Below w.heap.size w w' := by
  have hb0 := (Below.refl w.heap.size w).alloc (Nat.le_refl _) (.cells #[.bool neg, v, .int .i64 0] 81)
  have hr := right_t neg 0 (hT.below hb0) (h.below hb0)
  rw [decide_eq_true (show DRight 0 0 from .inl ⟨rfl, rfl⟩)] at hr
  obtain ⟨A, c, rfl⟩ := isT_zeroL h
  have hL := (LiveP.start w |>.go hb0).put (pBlk_st _ _ _) (pBlk_made w #[.bool neg, .slice A 0 c, .int .i64 0] 81)
  have ht : (if neg = true then [45] else []) ++ [([48] : List UInt8)].flatten = lyT neg 0 0 := by cases neg <;> rfl
  have hfl : [([48] : List UInt8)].flatten.length ≤ 100000 := by decide
  replace hr := Lib.hid hr
  clear hb0
  go_enter Tryz.func42, Tryz.ntmps42
  go_wp2_with fail
  refine hr.out.mono ?_
  rintro e w1 ⟨rfl, hb⟩
  replace hL := hL.go hb
  clear hb hr
  have q0 := (hL.get (P := pBlk w.heap.size #[.bool neg, .slice A 0 c, .int .i64 0] 81) (by repeat (first | exact List.mem_cons_self | apply List.mem_cons_of_mem))).cell 0 _ rfl
  have q1 := (hL.get (P := pBlk w.heap.size #[.bool neg, .slice A 0 c, .int .i64 0] 81) (by repeat (first | exact List.mem_cons_self | apply List.mem_cons_of_mem))).cell 1 _ rfl
  have q2 := (hL.get (P := pBlk w.heap.size #[.bool neg, .slice A 0 c, .int .i64 0] 81) (by repeat (first | exact List.mem_cons_self | apply List.mem_cons_of_mem))).cell 2 _ rfl
  go_wp2_with fail
  refine (joined_lit neg _ [[48]] _ rfl 1 rfl (by decide) (by decide) hfl _ ht).mono ?_
  rintro e w2 ⟨rfl, hb⟩
  replace hL := hL.go hb
  go_wp2
  go_ret
  exact ⟨rfl, hL.below⟩
theorem numT_lenL (x : Int) (hx : x.natAbs < 10 ^ 20) : (numT x).length ≤ 21 := by
  have := (padd_dec 20 x.natAbs (by decide) hx).2
  unfold numT
  split
  · simp; omega
  · omega
theorem strL_extract (S : List UInt8) (a b : Nat) : (strL S).extract a b = strL ((S.drop a).take (b - a)) := by
  unfold strL
  refine ByteArray.ext ?_
  rw [ByteArray.data_extract]
  refine Array.toList_inj.1 ?_
  rw [Array.toList_extract]
theorem slice_to (S : List UInt8) (p : Nat) (hp : p ≤ S.length) (w : World) : (Instr.slice 9 (.string (strL S)) none (some (.int .i64 p)) none).run Tryz.prog w = .ok (.string (strL (S.take p))) w := by
  rw [run_slice_string_h _ _ _ sunder_str .i64 p (by omega) (by rw [strL_size]; omega), strL_extract, List.drop_zero, Int.toNat_natCast, Nat.sub_zero]
theorem slice_from (S : List UInt8) (p : Nat) (hp : p ≤ S.length) (w : World) : (Instr.slice 9 (.string (strL S)) (some (.int .i64 p)) none none).run Tryz.prog w = .ok (.string (strL (S.drop p))) w := by
  rw [run_slice_string_l _ _ _ sunder_str .i64 p (by omega) (by rw [strL_size]; omega), strL_extract, Int.toNat_natCast, strL_size, List.take_of_length_le (by rw [List.length_drop]; omega)]
set_option maxRecDepth 100000 in
set_option maxHeartbeats 1000000 in
theorem layout_1 {w : World} {v : Value} {N : Nat} (neg : Bool) (k : Int) (hT : Tab10 w) (h : IsT w v 128 N) (hd : DRight N k) (h0 : 0 < N) (hc : 0 ≤ k ∧ ((Lib.decDigits N).length : Int) + k ≤ 21) :
    Calls Tryz.prog 42 #[.agg #[.bool neg, v, .int .i64 k]] w fun e w' => e = .returned (.string (strL (lyT neg N k))) ∧ Below w.heap.size w w' := by
  have hb0 := (Below.refl w.heap.size w).alloc (Nat.le_refl _) (.cells #[.bool neg, v, .int .i64 k] 81)
  have hr := right_t neg k (hT.below hb0) (h.below hb0)
  rw [decide_eq_true hd] at hr
  obtain ⟨A, c, zs, rfl, hrest⟩ := id h
  have hzn : zs.length ≠ 0 := by
    intro e
    obtain ⟨_, _, _, _, hv⟩ := hrest
    rw [List.eq_nil_of_length_eq_zero e] at hv
    have : N = 0 := by rw [← hv.val]; rfl
    omega
  clear hrest
  obtain ⟨n, hn⟩ : ∃ n, zs.length = n := ⟨_, rfl⟩
  rw [hn] at hr h hb0 hzn ⊢
  clear hn
  have hL := ((LiveP.start w).put (pT_st _ _ _) h |>.go hb0).put (pBlk_st _ _ _) (pBlk_made w #[.bool neg, .slice A n c, .int .i64 k] 81)
  have hnb : ((n : Int) == 0) = false := by simpa using hzn
  have hnz : (0 : Int) ≤ n := Int.natCast_nonneg n
  obtain ⟨S, hS⟩ : ∃ S, Lib.decDigits N = S := ⟨_, rfl⟩
  rw [hS] at hc
  obtain ⟨z, hz⟩ : ∃ z, S.length = z := ⟨_, rfl⟩
  rw [hz] at hc
  have hz0 : 0 < z := by rw [← hz, ← hS]; exact List.length_pos_iff.2 (dec_ne N)
  have hzz : z ≤ 2000 := by
    rcases hd with ⟨h1, _⟩ | ⟨_, _, h1, _⟩
    · omega
    · rw [hS, hz] at h1; exact h1
  have hk5 : -5000 ≤ k ∧ k ≤ 5000 := by
    rcases hd with ⟨h1, _⟩ | ⟨_, _, _, h1, h2⟩
    · omega
    · exact ⟨h1, h2⟩
  obtain ⟨hk5, hk6⟩ := hk5
  have hsz : (strL S).size = z := by rw [strL_size, hz]
  have hzb : z ≤ maxLen := by unfold maxLen; omega
  have htx := fun (w' : World) (hb : Below w.heap.size w w') => stext_t (hT.below hb) (IsT.isN (h.below hb)) (by decide)
  rw [hS, show (⟨S.toArray⟩ : ByteArray) = strL S from rfl] at htx
  replace htx := Lib.hid htx
  replace hr := Lib.hid hr
  replace hS := Lib.hid hS
  replace hz := Lib.hid hz
  replace hd := Lib.hid hd
  clear h hb0
  go_enter Tryz.func42, Tryz.ntmps42
  go_wp2_with fail
  refine hr.out.mono ?_
  rintro e w1 ⟨rfl, hb⟩
  replace hL := hL.go hb
  clear hb hr
  have q0 := (hL.get (P := pBlk w.heap.size #[.bool neg, .slice A n c, .int .i64 k] 81) (by repeat (first | exact List.mem_cons_self | apply List.mem_cons_of_mem))).cell 0 _ rfl
  have q1 := (hL.get (P := pBlk w.heap.size #[.bool neg, .slice A n c, .int .i64 k] 81) (by repeat (first | exact List.mem_cons_self | apply List.mem_cons_of_mem))).cell 1 _ rfl
  have q2 := (hL.get (P := pBlk w.heap.size #[.bool neg, .slice A n c, .int .i64 k] 81) (by repeat (first | exact List.mem_cons_self | apply List.mem_cons_of_mem))).cell 2 _ rfl
  go_wp2_with fail
  refine (htx.out _ hL.below).mono ?_
  rintro e w2 ⟨rfl, hb⟩
  replace hL := hL.go hb
  clear hb htx q0 q1 q2
  have q0 := (hL.get (P := pBlk w.heap.size #[.bool neg, .slice A n c, .int .i64 k] 81) (by repeat (first | exact List.mem_cons_self | apply List.mem_cons_of_mem))).cell 0 _ rfl
  have q1 := (hL.get (P := pBlk w.heap.size #[.bool neg, .slice A n c, .int .i64 k] 81) (by repeat (first | exact List.mem_cons_self | apply List.mem_cons_of_mem))).cell 1 _ rfl
  have q2 := (hL.get (P := pBlk w.heap.size #[.bool neg, .slice A n c, .int .i64 k] 81) (by repeat (first | exact List.mem_cons_self | apply List.mem_cons_of_mem))).cell 2 _ rfl
  have hfl : [S, List.replicate k.toNat 48].flatten.length ≤ 100000 := by
    have := hz.out
    simp
    omega
  have hB : lyB S k = S ++ List.replicate k.toNat 48 := by
    unfold lyB
    rw [hz.out, if_pos hc]
  have ht : (if neg = true then [45] else []) ++ [S, List.replicate k.toNat 48].flatten = lyT neg N k := by
    rw [lyT, lyS_pos h0, hS.out, hB]
    simp
  obtain ⟨hc1, hc2⟩ := hc
  have hlt := cell_lt q0
  have hk9 : k ≤ 100000 := by omega
  go_wp2
  go_region_law (first | (go_simp; go_at_call 85; refine (zeros_any k hc1 hk9 _).mono ?_; rintro e w5 ⟨rfl, hb5⟩; have c0 := (hb5.cell (p := ⟨w.heap.size, 0, none⟩) hlt).trans q0; have e5 : w.heap.size < w5.heap.size := Nat.lt_of_lt_of_le hlt hb5.size) | (go_simp; go_at_call 83; refine (joined_lit neg _ [S, List.replicate k.toNat 48] _ rfl 2 rfl (by decide) (by decide) hfl _ ht).mono ?_; rintro e w6 ⟨rfl, hb6⟩; have hfin := chain (chain hL.below.drew hb5) hb6))
  all_goals
    go_wp2
    go_ret
    exact ⟨rfl, hfin⟩
set_option maxRecDepth 100000 in
set_option maxHeartbeats 1000000 in
theorem layout_2 {w : World} {v : Value} {N : Nat} (neg : Bool) (k : Int) (hT : Tab10 w) (h : IsT w v 128 N) (hd : DRight N k) (h0 : 0 < N) (hc : k < 0 ∧ 0 < ((Lib.decDigits N).length : Int) + k ∧ ((Lib.decDigits N).length : Int) + k ≤ 21) :
    Calls Tryz.prog 42 #[.agg #[.bool neg, v, .int .i64 k]] w fun e w' => e = .returned (.string (strL (lyT neg N k))) ∧ Below w.heap.size w w' := by
  have hb0 := (Below.refl w.heap.size w).alloc (Nat.le_refl _) (.cells #[.bool neg, v, .int .i64 k] 81)
  have hr := right_t neg k (hT.below hb0) (h.below hb0)
  rw [decide_eq_true hd] at hr
  obtain ⟨A, c, zs, rfl, hrest⟩ := id h
  have hzn : zs.length ≠ 0 := by
    intro e
    obtain ⟨_, _, _, _, hv⟩ := hrest
    rw [List.eq_nil_of_length_eq_zero e] at hv
    have : N = 0 := by rw [← hv.val]; rfl
    omega
  clear hrest
  obtain ⟨n, hn⟩ : ∃ n, zs.length = n := ⟨_, rfl⟩
  rw [hn] at hr h hb0 hzn ⊢
  clear hn
  have hL := ((LiveP.start w).put (pT_st _ _ _) h |>.go hb0).put (pBlk_st _ _ _) (pBlk_made w #[.bool neg, .slice A n c, .int .i64 k] 81)
  have hnb : ((n : Int) == 0) = false := by simpa using hzn
  have hnz : (0 : Int) ≤ n := Int.natCast_nonneg n
  obtain ⟨S, hS⟩ : ∃ S, Lib.decDigits N = S := ⟨_, rfl⟩
  rw [hS] at hc
  obtain ⟨z, hz⟩ : ∃ z, S.length = z := ⟨_, rfl⟩
  rw [hz] at hc
  have hz0 : 0 < z := by rw [← hz, ← hS]; exact List.length_pos_iff.2 (dec_ne N)
  have hzz : z ≤ 2000 := by
    rcases hd with ⟨h1, _⟩ | ⟨_, _, h1, _⟩
    · omega
    · rw [hS, hz] at h1; exact h1
  have hk5 : -5000 ≤ k ∧ k ≤ 5000 := by
    rcases hd with ⟨h1, _⟩ | ⟨_, _, _, h1, h2⟩
    · omega
    · exact ⟨h1, h2⟩
  obtain ⟨hk5, hk6⟩ := hk5
  have hsz : (strL S).size = z := by rw [strL_size, hz]
  have hzb : z ≤ maxLen := by unfold maxLen; omega
  have htx := fun (w' : World) (hb : Below w.heap.size w w') => stext_t (hT.below hb) (IsT.isN (h.below hb)) (by decide)
  rw [hS, show (⟨S.toArray⟩ : ByteArray) = strL S from rfl] at htx
  replace htx := Lib.hid htx
  replace hr := Lib.hid hr
  replace hS := Lib.hid hS
  replace hz := Lib.hid hz
  replace hd := Lib.hid hd
  clear h hb0
  go_enter Tryz.func42, Tryz.ntmps42
  go_wp2_with fail
  refine hr.out.mono ?_
  rintro e w1 ⟨rfl, hb⟩
  replace hL := hL.go hb
  clear hb hr
  have q0 := (hL.get (P := pBlk w.heap.size #[.bool neg, .slice A n c, .int .i64 k] 81) (by repeat (first | exact List.mem_cons_self | apply List.mem_cons_of_mem))).cell 0 _ rfl
  have q1 := (hL.get (P := pBlk w.heap.size #[.bool neg, .slice A n c, .int .i64 k] 81) (by repeat (first | exact List.mem_cons_self | apply List.mem_cons_of_mem))).cell 1 _ rfl
  have q2 := (hL.get (P := pBlk w.heap.size #[.bool neg, .slice A n c, .int .i64 k] 81) (by repeat (first | exact List.mem_cons_self | apply List.mem_cons_of_mem))).cell 2 _ rfl
  go_wp2_with fail
  refine (htx.out _ hL.below).mono ?_
  rintro e w2 ⟨rfl, hb⟩
  replace hL := hL.go hb
  clear hb htx q0 q1 q2
  have q0 := (hL.get (P := pBlk w.heap.size #[.bool neg, .slice A n c, .int .i64 k] 81) (by repeat (first | exact List.mem_cons_self | apply List.mem_cons_of_mem))).cell 0 _ rfl
  have q1 := (hL.get (P := pBlk w.heap.size #[.bool neg, .slice A n c, .int .i64 k] 81) (by repeat (first | exact List.mem_cons_self | apply List.mem_cons_of_mem))).cell 1 _ rfl
  have q2 := (hL.get (P := pBlk w.heap.size #[.bool neg, .slice A n c, .int .i64 k] 81) (by repeat (first | exact List.mem_cons_self | apply List.mem_cons_of_mem))).cell 2 _ rfl
  obtain ⟨p, hp⟩ : ∃ p : Nat, (z : Int) + k = p := ⟨((z : Int) + k).toNat, by omega⟩
  have hfl : [S.take p, [46], S.drop p].flatten.length ≤ 100000 := by
    have := hz.out
    simp
    omega
  have hB : lyB S k = S.take p ++ 46 :: S.drop p := by
    unfold lyB
    rw [hz.out, if_neg (by omega), if_pos ⟨by omega, by omega⟩, hp, Int.toNat_natCast]
  have ht : (if neg = true then [45] else []) ++ [S.take p, [46], S.drop p].flatten = lyT neg N k := by
    rw [lyT, lyS_pos h0, hS.out, hB]
    simp
  obtain ⟨hc1, hc2, hc3⟩ := hc
  have hlt := cell_lt q0
  have hp1 : p ≤ z := by omega
  have hp2 : (0 : Int) < p := by omega
  have hp3 : (p : Int) ≤ 21 := by omega
  have hkn : ¬ 0 ≤ k := by omega
  have hs1 := fun w => slice_to S p (by have := hz.out; omega) w
  have hs2 := fun w => slice_from S p (by have := hz.out; omega) w
  clear hB
  go_wp2
  go_region_law (go_simp; go_at_call 83; refine (joined_litD neg _ [S.take p, [46], S.drop p] _ rfl 3 rfl (by decide) (by decide) hfl _ ht).mono ?_; rintro e w6 ⟨rfl, hb6⟩; have hfin := chain hL.below hb6)
  all_goals
    go_wp2
    go_ret
    exact ⟨rfl, hfin⟩
set_option maxRecDepth 100000 in
set_option maxHeartbeats 1000000 in
theorem layout_3 {w : World} {v : Value} {N : Nat} (neg : Bool) (k : Int) (hT : Tab10 w) (h : IsT w v 128 N) (hd : DRight N k) (h0 : 0 < N) (hc : -6 < ((Lib.decDigits N).length : Int) + k ∧ ((Lib.decDigits N).length : Int) + k ≤ 0) :
    Calls Tryz.prog 42 #[.agg #[.bool neg, v, .int .i64 k]] w fun e w' => e = .returned (.string (strL (lyT neg N k))) ∧ Below w.heap.size w w' := by
  have hb0 := (Below.refl w.heap.size w).alloc (Nat.le_refl _) (.cells #[.bool neg, v, .int .i64 k] 81)
  have hr := right_t neg k (hT.below hb0) (h.below hb0)
  rw [decide_eq_true hd] at hr
  obtain ⟨A, c, zs, rfl, hrest⟩ := id h
  have hzn : zs.length ≠ 0 := by
    intro e
    obtain ⟨_, _, _, _, hv⟩ := hrest
    rw [List.eq_nil_of_length_eq_zero e] at hv
    have : N = 0 := by rw [← hv.val]; rfl
    omega
  clear hrest
  obtain ⟨n, hn⟩ : ∃ n, zs.length = n := ⟨_, rfl⟩
  rw [hn] at hr h hb0 hzn ⊢
  clear hn
  have hL := ((LiveP.start w).put (pT_st _ _ _) h |>.go hb0).put (pBlk_st _ _ _) (pBlk_made w #[.bool neg, .slice A n c, .int .i64 k] 81)
  have hnb : ((n : Int) == 0) = false := by simpa using hzn
  have hnz : (0 : Int) ≤ n := Int.natCast_nonneg n
  obtain ⟨S, hS⟩ : ∃ S, Lib.decDigits N = S := ⟨_, rfl⟩
  rw [hS] at hc
  obtain ⟨z, hz⟩ : ∃ z, S.length = z := ⟨_, rfl⟩
  rw [hz] at hc
  have hz0 : 0 < z := by rw [← hz, ← hS]; exact List.length_pos_iff.2 (dec_ne N)
  have hzz : z ≤ 2000 := by
    rcases hd with ⟨h1, _⟩ | ⟨_, _, h1, _⟩
    · omega
    · rw [hS, hz] at h1; exact h1
  have hk5 : -5000 ≤ k ∧ k ≤ 5000 := by
    rcases hd with ⟨h1, _⟩ | ⟨_, _, _, h1, h2⟩
    · omega
    · exact ⟨h1, h2⟩
  obtain ⟨hk5, hk6⟩ := hk5
  have hsz : (strL S).size = z := by rw [strL_size, hz]
  have hzb : z ≤ maxLen := by unfold maxLen; omega
  have htx := fun (w' : World) (hb : Below w.heap.size w w') => stext_t (hT.below hb) (IsT.isN (h.below hb)) (by decide)
  rw [hS, show (⟨S.toArray⟩ : ByteArray) = strL S from rfl] at htx
  replace htx := Lib.hid htx
  replace hr := Lib.hid hr
  replace hS := Lib.hid hS
  replace hz := Lib.hid hz
  replace hd := Lib.hid hd
  clear h hb0
  go_enter Tryz.func42, Tryz.ntmps42
  go_wp2_with fail
  refine hr.out.mono ?_
  rintro e w1 ⟨rfl, hb⟩
  replace hL := hL.go hb
  clear hb hr
  have q0 := (hL.get (P := pBlk w.heap.size #[.bool neg, .slice A n c, .int .i64 k] 81) (by repeat (first | exact List.mem_cons_self | apply List.mem_cons_of_mem))).cell 0 _ rfl
  have q1 := (hL.get (P := pBlk w.heap.size #[.bool neg, .slice A n c, .int .i64 k] 81) (by repeat (first | exact List.mem_cons_self | apply List.mem_cons_of_mem))).cell 1 _ rfl
  have q2 := (hL.get (P := pBlk w.heap.size #[.bool neg, .slice A n c, .int .i64 k] 81) (by repeat (first | exact List.mem_cons_self | apply List.mem_cons_of_mem))).cell 2 _ rfl
  go_wp2_with fail
  refine (htx.out _ hL.below).mono ?_
  rintro e w2 ⟨rfl, hb⟩
  replace hL := hL.go hb
  clear hb htx q0 q1 q2
  have q0 := (hL.get (P := pBlk w.heap.size #[.bool neg, .slice A n c, .int .i64 k] 81) (by repeat (first | exact List.mem_cons_self | apply List.mem_cons_of_mem))).cell 0 _ rfl
  have q1 := (hL.get (P := pBlk w.heap.size #[.bool neg, .slice A n c, .int .i64 k] 81) (by repeat (first | exact List.mem_cons_self | apply List.mem_cons_of_mem))).cell 1 _ rfl
  have q2 := (hL.get (P := pBlk w.heap.size #[.bool neg, .slice A n c, .int .i64 k] 81) (by repeat (first | exact List.mem_cons_self | apply List.mem_cons_of_mem))).cell 2 _ rfl
  have hfl : [[48, 46], List.replicate (-((z : Int) + k)).toNat 48, S].flatten.length ≤ 100000 := by
    have := hz.out
    simp
    omega
  have hB : lyB S k = 48 :: 46 :: (List.replicate (-((z : Int) + k)).toNat 48 ++ S) := by
    unfold lyB
    rw [hz.out, if_neg (by omega), if_neg (by omega), if_pos hc]
  have ht : (if neg = true then [45] else []) ++ [[48, 46], List.replicate (-((z : Int) + k)).toNat 48, S].flatten = lyT neg N k := by
    rw [lyT, lyS_pos h0, hS.out, hB]
    simp
  obtain ⟨hc1, hc2⟩ := hc
  have hlt := cell_lt q0
  obtain ⟨m, hm⟩ : ∃ m : Nat, -((z : Int) + k) = m := ⟨(-((z : Int) + k)).toNat, by omega⟩
  rw [hm] at hfl ht
  have hwr : IntKind.i64.wrap (-((z : Int) + k)) = (m : Int) := by
    rw [hm]
    unfold IntKind.wrap IntKind.bits IntKind.signed
    simp
    omega
  have hwr2 : IntKind.i64.wrap (m : Int) = (m : Int) := by
    unfold IntKind.wrap IntKind.bits IntKind.signed
    simp
    omega
  have hm1 : (0 : Int) ≤ m := by omega
  have hm2 : (m : Int) ≤ 100000 := by omega
  clear hB
  have hkn : ¬ 0 ≤ k := by omega
  have hpn : ¬ 0 < (z : Int) + k := by omega
  go_wp2
  go_region_law (first | (go_simp; go_at_call 85; refine (zeros_any (m : Int) hm1 hm2 _).mono ?_; rintro e w5 ⟨rfl, hb5⟩; have c0 := (hb5.cell (p := ⟨w.heap.size, 0, none⟩) hlt).trans q0; have e5 : w.heap.size < w5.heap.size := Nat.lt_of_lt_of_le hlt hb5.size) | (go_simp; go_at_call 83; refine (joined_lit neg _ [[48, 46], List.replicate (m : Int).toNat 48, S] _ rfl 3 rfl (by decide) (by decide) hfl _ ht).mono ?_; rintro e w6 ⟨rfl, hb6⟩; have hfin := chain (chain hL.below.drew hb5) hb6))
  all_goals
    go_wp2
    go_ret
    exact ⟨rfl, hfin⟩
set_option maxRecDepth 100000 in
set_option maxHeartbeats 1000000 in
theorem layout_4 {w : World} {v : Value} {N : Nat} (neg : Bool) (k : Int) (hT : Tab10 w) (h : IsT w v 128 N) (hd : DRight N k) (h0 : 0 < N) (hc : (21 < ((Lib.decDigits N).length : Int) + k ∨ ((Lib.decDigits N).length : Int) + k ≤ -6) ∧ ((Lib.decDigits N).length : Int) = 1) :
    Calls Tryz.prog 42 #[.agg #[.bool neg, v, .int .i64 k]] w fun e w' => e = .returned (.string (strL (lyT neg N k))) ∧ Below w.heap.size w w' := by
  have hb0 := (Below.refl w.heap.size w).alloc (Nat.le_refl _) (.cells #[.bool neg, v, .int .i64 k] 81)
  have hr := right_t neg k (hT.below hb0) (h.below hb0)
  rw [decide_eq_true hd] at hr
  obtain ⟨A, c, zs, rfl, hrest⟩ := id h
  have hzn : zs.length ≠ 0 := by
    intro e
    obtain ⟨_, _, _, _, hv⟩ := hrest
    rw [List.eq_nil_of_length_eq_zero e] at hv
    have : N = 0 := by rw [← hv.val]; rfl
    omega
  clear hrest
  obtain ⟨n, hn⟩ : ∃ n, zs.length = n := ⟨_, rfl⟩
  rw [hn] at hr h hb0 hzn ⊢
  clear hn
  have hL := ((LiveP.start w).put (pT_st _ _ _) h |>.go hb0).put (pBlk_st _ _ _) (pBlk_made w #[.bool neg, .slice A n c, .int .i64 k] 81)
  have hnb : ((n : Int) == 0) = false := by simpa using hzn
  have hnz : (0 : Int) ≤ n := Int.natCast_nonneg n
  obtain ⟨S, hS⟩ : ∃ S, Lib.decDigits N = S := ⟨_, rfl⟩
  rw [hS] at hc
  obtain ⟨z, hz⟩ : ∃ z, S.length = z := ⟨_, rfl⟩
  rw [hz] at hc
  have hz0 : 0 < z := by rw [← hz, ← hS]; exact List.length_pos_iff.2 (dec_ne N)
  have hzz : z ≤ 2000 := by
    rcases hd with ⟨h1, _⟩ | ⟨_, _, h1, _⟩
    · omega
    · rw [hS, hz] at h1; exact h1
  have hk5 : -5000 ≤ k ∧ k ≤ 5000 := by
    rcases hd with ⟨h1, _⟩ | ⟨_, _, _, h1, h2⟩
    · omega
    · exact ⟨h1, h2⟩
  obtain ⟨hk5, hk6⟩ := hk5
  have hsz : (strL S).size = z := by rw [strL_size, hz]
  have hzb : z ≤ maxLen := by unfold maxLen; omega
  have htx := fun (w' : World) (hb : Below w.heap.size w w') => stext_t (hT.below hb) (IsT.isN (h.below hb)) (by decide)
  rw [hS, show (⟨S.toArray⟩ : ByteArray) = strL S from rfl] at htx
  replace htx := Lib.hid htx
  replace hr := Lib.hid hr
  replace hS := Lib.hid hS
  replace hz := Lib.hid hz
  replace hd := Lib.hid hd
  clear h hb0
  go_enter Tryz.func42, Tryz.ntmps42
  go_wp2_with fail
  refine hr.out.mono ?_
  rintro e w1 ⟨rfl, hb⟩
  replace hL := hL.go hb
  clear hb hr
  have q0 := (hL.get (P := pBlk w.heap.size #[.bool neg, .slice A n c, .int .i64 k] 81) (by repeat (first | exact List.mem_cons_self | apply List.mem_cons_of_mem))).cell 0 _ rfl
  have q1 := (hL.get (P := pBlk w.heap.size #[.bool neg, .slice A n c, .int .i64 k] 81) (by repeat (first | exact List.mem_cons_self | apply List.mem_cons_of_mem))).cell 1 _ rfl
  have q2 := (hL.get (P := pBlk w.heap.size #[.bool neg, .slice A n c, .int .i64 k] 81) (by repeat (first | exact List.mem_cons_self | apply List.mem_cons_of_mem))).cell 2 _ rfl
  go_wp2_with fail
  refine (htx.out _ hL.below).mono ?_
  rintro e w2 ⟨rfl, hb⟩
  replace hL := hL.go hb
  clear hb htx q0 q1 q2
  have q0 := (hL.get (P := pBlk w.heap.size #[.bool neg, .slice A n c, .int .i64 k] 81) (by repeat (first | exact List.mem_cons_self | apply List.mem_cons_of_mem))).cell 0 _ rfl
  have q1 := (hL.get (P := pBlk w.heap.size #[.bool neg, .slice A n c, .int .i64 k] 81) (by repeat (first | exact List.mem_cons_self | apply List.mem_cons_of_mem))).cell 1 _ rfl
  have q2 := (hL.get (P := pBlk w.heap.size #[.bool neg, .slice A n c, .int .i64 k] 81) (by repeat (first | exact List.mem_cons_self | apply List.mem_cons_of_mem))).cell 2 _ rfl
  have hfl : [S, [101], numT ((z : Int) + k - 1)].flatten.length ≤ 100000 := by
    have := hz.out
    have := numT_lenL ((z : Int) + k - 1) (by omega)
    simp
    omega
  have hB : lyB S k = S ++ 101 :: numT ((z : Int) + k - 1) := by
    unfold lyB
    rw [hz.out, if_neg (by omega), if_neg (by omega), if_neg (by omega), if_pos (by omega)]
  have ht : (if neg = true then [45] else []) ++ [S, [101], numT ((z : Int) + k - 1)].flatten = lyT neg N k := by
    rw [lyT, lyS_pos h0, hS.out, hB]
    simp
  obtain ⟨hcf, hc1⟩ := hc
  have hlt := cell_lt q0
  obtain ⟨u, hu⟩ : ∃ u, numT ((z : Int) + k - 1) = u := ⟨_, rfl⟩
  rw [hu] at hfl ht
  have hT2 : Tab10 w2.drew := (hT.below hL.below).below (Below.refl _ _).drew
  clear hB
  have hm1 : -100000 ≤ (z : Int) + k - 1 := by omega
  have hm2 : (z : Int) + k - 1 ≤ 100000 := by omega
  have hit := itoa_any ((z : Int) + k - 1) hm1 hm2 _ hT2
  rw [hu] at hit
  replace hit := Lib.hid hit
  replace hu := Lib.hid hu
  have hwr : IntKind.i64.wrap ((z : Int) + k - 1) = (z : Int) + k - 1 := by
    unfold IntKind.wrap IntKind.bits IntKind.signed
    simp
    omega
  have hz1 : ((z : Int) == 1) = true := by simpa using hc1
  replace hc1 := Lib.hid hc1
  have hf1 : ¬ (0 ≤ k ∧ (z : Int) + k ≤ 21) := by omega
  have hf2 : ¬ (0 < (z : Int) + k ∧ (z : Int) + k ≤ 21) := by omega
  have hf3 : ¬ (-6 < (z : Int) + k ∧ (z : Int) + k ≤ 0) := by omega
  by_cases hcf' : 21 < (z : Int) + k
  · have hg1 : ¬ (z : Int) + k ≤ 21 := by omega
    have hg2 : 0 < (z : Int) + k := by omega
    have hg3 : -6 < (z : Int) + k := by omega
    have hg4 : ¬ (z : Int) + k ≤ 0 := by omega
    clear hf1 hf2 hf3 hcf
    go_wp2
    all_goals go_region_law (first | (go_simp; go_at_call 86; refine Calls.mono hit.out ?_; rintro e w5 ⟨rfl, hb5⟩; have c0 := (hb5.cell (p := ⟨w.heap.size, 0, none⟩) hlt).trans q0; have e5 : w.heap.size < w5.heap.size := Nat.lt_of_lt_of_le hlt hb5.size) | (go_simp; go_at_call 83; refine (joined_lit neg _ [S, [101], u] _ rfl 3 rfl (by decide) (by decide) hfl _ ht).mono ?_; rintro e w6 ⟨rfl, hb6⟩; have hfin := chain (chain hL.below.drew hb5) hb6))
    all_goals
      go_wp2
      go_ret
      exact ⟨rfl, hfin⟩
  · have hg1 : (z : Int) + k ≤ 21 := by omega
    have hg2 : ¬ 0 < (z : Int) + k := by omega
    have hg3 : ¬ -6 < (z : Int) + k := by omega
    have hg4 : ¬ 0 ≤ k := by omega
    clear hf1 hf2 hf3 hcf
    go_wp2
    all_goals go_region_law (first | (go_simp; go_at_call 86; refine Calls.mono hit.out ?_; rintro e w5 ⟨rfl, hb5⟩; have c0 := (hb5.cell (p := ⟨w.heap.size, 0, none⟩) hlt).trans q0; have e5 : w.heap.size < w5.heap.size := Nat.lt_of_lt_of_le hlt hb5.size) | (go_simp; go_at_call 83; refine (joined_lit neg _ [S, [101], u] _ rfl 3 rfl (by decide) (by decide) hfl _ ht).mono ?_; rintro e w6 ⟨rfl, hb6⟩; have hfin := chain (chain hL.below.drew hb5) hb6))
    all_goals
      go_wp2
      go_ret
      exact ⟨rfl, hfin⟩
set_option maxRecDepth 100000 in
set_option maxHeartbeats 1000000 in
theorem layout_5 {w : World} {v : Value} {N : Nat} (neg : Bool) (k : Int) (hT : Tab10 w) (h : IsT w v 128 N) (hd : DRight N k) (h0 : 0 < N) (hc : (21 < ((Lib.decDigits N).length : Int) + k ∨ ((Lib.decDigits N).length : Int) + k ≤ -6) ∧ ((Lib.decDigits N).length : Int) ≠ 1) :
    Calls Tryz.prog 42 #[.agg #[.bool neg, v, .int .i64 k]] w fun e w' => e = .returned (.string (strL (lyT neg N k))) ∧ Below w.heap.size w w' := by
  have hb0 := (Below.refl w.heap.size w).alloc (Nat.le_refl _) (.cells #[.bool neg, v, .int .i64 k] 81)
  have hr := right_t neg k (hT.below hb0) (h.below hb0)
  rw [decide_eq_true hd] at hr
  obtain ⟨A, c, zs, rfl, hrest⟩ := id h
  have hzn : zs.length ≠ 0 := by
    intro e
    obtain ⟨_, _, _, _, hv⟩ := hrest
    rw [List.eq_nil_of_length_eq_zero e] at hv
    have : N = 0 := by rw [← hv.val]; rfl
    omega
  clear hrest
  obtain ⟨n, hn⟩ : ∃ n, zs.length = n := ⟨_, rfl⟩
  rw [hn] at hr h hb0 hzn ⊢
  clear hn
  have hL := ((LiveP.start w).put (pT_st _ _ _) h |>.go hb0).put (pBlk_st _ _ _) (pBlk_made w #[.bool neg, .slice A n c, .int .i64 k] 81)
  have hnb : ((n : Int) == 0) = false := by simpa using hzn
  have hnz : (0 : Int) ≤ n := Int.natCast_nonneg n
  obtain ⟨S, hS⟩ : ∃ S, Lib.decDigits N = S := ⟨_, rfl⟩
  rw [hS] at hc
  obtain ⟨z, hz⟩ : ∃ z, S.length = z := ⟨_, rfl⟩
  rw [hz] at hc
  have hz0 : 0 < z := by rw [← hz, ← hS]; exact List.length_pos_iff.2 (dec_ne N)
  have hzz : z ≤ 2000 := by
    rcases hd with ⟨h1, _⟩ | ⟨_, _, h1, _⟩
    · omega
    · rw [hS, hz] at h1; exact h1
  have hk5 : -5000 ≤ k ∧ k ≤ 5000 := by
    rcases hd with ⟨h1, _⟩ | ⟨_, _, _, h1, h2⟩
    · omega
    · exact ⟨h1, h2⟩
  obtain ⟨hk5, hk6⟩ := hk5
  have hsz : (strL S).size = z := by rw [strL_size, hz]
  have hzb : z ≤ maxLen := by unfold maxLen; omega
  have htx := fun (w' : World) (hb : Below w.heap.size w w') => stext_t (hT.below hb) (IsT.isN (h.below hb)) (by decide)
  rw [hS, show (⟨S.toArray⟩ : ByteArray) = strL S from rfl] at htx
  replace htx := Lib.hid htx
  replace hr := Lib.hid hr
  replace hS := Lib.hid hS
  replace hz := Lib.hid hz
  replace hd := Lib.hid hd
  clear h hb0
  go_enter Tryz.func42, Tryz.ntmps42
  go_wp2_with fail
  refine hr.out.mono ?_
  rintro e w1 ⟨rfl, hb⟩
  replace hL := hL.go hb
  clear hb hr
  have q0 := (hL.get (P := pBlk w.heap.size #[.bool neg, .slice A n c, .int .i64 k] 81) (by repeat (first | exact List.mem_cons_self | apply List.mem_cons_of_mem))).cell 0 _ rfl
  have q1 := (hL.get (P := pBlk w.heap.size #[.bool neg, .slice A n c, .int .i64 k] 81) (by repeat (first | exact List.mem_cons_self | apply List.mem_cons_of_mem))).cell 1 _ rfl
  have q2 := (hL.get (P := pBlk w.heap.size #[.bool neg, .slice A n c, .int .i64 k] 81) (by repeat (first | exact List.mem_cons_self | apply List.mem_cons_of_mem))).cell 2 _ rfl
  go_wp2_with fail
  refine (htx.out _ hL.below).mono ?_
  rintro e w2 ⟨rfl, hb⟩
  replace hL := hL.go hb
  clear hb htx q0 q1 q2
  have q0 := (hL.get (P := pBlk w.heap.size #[.bool neg, .slice A n c, .int .i64 k] 81) (by repeat (first | exact List.mem_cons_self | apply List.mem_cons_of_mem))).cell 0 _ rfl
  have q1 := (hL.get (P := pBlk w.heap.size #[.bool neg, .slice A n c, .int .i64 k] 81) (by repeat (first | exact List.mem_cons_self | apply List.mem_cons_of_mem))).cell 1 _ rfl
  have q2 := (hL.get (P := pBlk w.heap.size #[.bool neg, .slice A n c, .int .i64 k] 81) (by repeat (first | exact List.mem_cons_self | apply List.mem_cons_of_mem))).cell 2 _ rfl
  have hfl : [S.take 1, [46], S.drop 1, [101], numT ((z : Int) + k - 1)].flatten.length ≤ 100000 := by
    have := hz.out
    have := numT_lenL ((z : Int) + k - 1) (by omega)
    simp
    omega
  have hB : lyB S k = S.take 1 ++ 46 :: (S.drop 1 ++ 101 :: numT ((z : Int) + k - 1)) := by
    unfold lyB
    rw [hz.out, if_neg (by omega), if_neg (by omega), if_neg (by omega), if_neg (by omega)]
  have ht : (if neg = true then [45] else []) ++ [S.take 1, [46], S.drop 1, [101], numT ((z : Int) + k - 1)].flatten = lyT neg N k := by
    rw [lyT, lyS_pos h0, hS.out, hB]
    simp
  obtain ⟨hcf, hc1⟩ := hc
  have hlt := cell_lt q0
  have hs1 : ∀ w, (Instr.slice 9 (.string (strL S)) none (some (.int .i64 1)) none).run Tryz.prog w = .ok (.string (strL (S.take 1))) w := fun w => slice_to S 1 (by have := hz.out; omega) w
  have hs2 : ∀ w, (Instr.slice 9 (.string (strL S)) (some (.int .i64 1)) none none).run Tryz.prog w = .ok (.string (strL (S.drop 1))) w := fun w => slice_from S 1 (by have := hz.out; omega) w
  obtain ⟨s1, hs1e⟩ : ∃ x, S.take 1 = x := ⟨_, rfl⟩
  obtain ⟨s2, hs2e⟩ : ∃ x, S.drop 1 = x := ⟨_, rfl⟩
  rw [hs1e] at hs1 hfl ht
  rw [hs2e] at hs2 hfl ht
  clear hs1e hs2e
  obtain ⟨u, hu⟩ : ∃ u, numT ((z : Int) + k - 1) = u := ⟨_, rfl⟩
  rw [hu] at hfl ht
  have hT2 : Tab10 w2.drew := (hT.below hL.below).below (Below.refl _ _).drew
  clear hB
  have hm1 : -100000 ≤ (z : Int) + k - 1 := by omega
  have hm2 : (z : Int) + k - 1 ≤ 100000 := by omega
  have hit := itoa_any ((z : Int) + k - 1) hm1 hm2 _ hT2
  rw [hu] at hit
  replace hit := Lib.hid hit
  replace hu := Lib.hid hu
  have hwr : IntKind.i64.wrap ((z : Int) + k - 1) = (z : Int) + k - 1 := by
    unfold IntKind.wrap IntKind.bits IntKind.signed
    simp
    omega
  have hz1 : ((z : Int) == 1) = false := by simpa using hc1
  have hf1 : ¬ (0 ≤ k ∧ (z : Int) + k ≤ 21) := by omega
  have hf2 : ¬ (0 < (z : Int) + k ∧ (z : Int) + k ≤ 21) := by omega
  have hf3 : ¬ (-6 < (z : Int) + k ∧ (z : Int) + k ≤ 0) := by omega
  by_cases hcf' : 21 < (z : Int) + k
  · have hg1 : ¬ (z : Int) + k ≤ 21 := by omega
    have hg2 : 0 < (z : Int) + k := by omega
    have hg3 : -6 < (z : Int) + k := by omega
    have hg4 : ¬ (z : Int) + k ≤ 0 := by omega
    clear hf1 hf2 hf3 hcf
    go_wp2
    all_goals go_region_law (first | (go_simp; go_at_call 86; refine Calls.mono hit.out ?_; rintro e w5 ⟨rfl, hb5⟩; have c0 := (hb5.cell (p := ⟨w.heap.size, 0, none⟩) hlt).trans q0; have e5 : w.heap.size < w5.heap.size := Nat.lt_of_lt_of_le hlt hb5.size) | (go_simp; go_at_call 83; refine (joined_lit neg _ [s1, [46], s2, [101], u] _ rfl 5 rfl (by decide) (by decide) hfl _ ht).mono ?_; rintro e w6 ⟨rfl, hb6⟩; have hfin := chain (chain hL.below.drew hb5) hb6))
    all_goals
      go_wp2
      go_ret
      exact ⟨rfl, hfin⟩
  · have hg1 : (z : Int) + k ≤ 21 := by omega
    have hg2 : ¬ 0 < (z : Int) + k := by omega
    have hg3 : ¬ -6 < (z : Int) + k := by omega
    have hg4 : ¬ 0 ≤ k := by omega
    clear hf1 hf2 hf3 hcf
    go_wp2
    all_goals go_region_law (first | (go_simp; go_at_call 86; refine Calls.mono hit.out ?_; rintro e w5 ⟨rfl, hb5⟩; have c0 := (hb5.cell (p := ⟨w.heap.size, 0, none⟩) hlt).trans q0; have e5 : w.heap.size < w5.heap.size := Nat.lt_of_lt_of_le hlt hb5.size) | (go_simp; go_at_call 83; refine (joined_lit neg _ [s1, [46], s2, [101], u] _ rfl 5 rfl (by decide) (by decide) hfl _ ht).mono ?_; rintro e w6 ⟨rfl, hb6⟩; have hfin := chain (chain hL.below.drew hb5) hb6))
    all_goals
      go_wp2
      go_ret
      exact ⟨rfl, hfin⟩
/-- Layout, whole. -/
theorem layout_any {w : World} {v : Value} {N : Nat} (neg : Bool) (k : Int) (hT : Tab10 w) (h : IsT w v 128 N) :
    Calls Tryz.prog 42 #[.agg #[.bool neg, v, .int .i64 k]] w fun e w' => e = .returned (.string (strL (lyR neg N k))) ∧ Below w.heap.size w w' := by
  by_cases hd : DRight N k
  · have hr : lyR neg N k = lyT neg N k := by unfold lyR; rw [if_pos hd]
    rw [hr]
    rcases Nat.eq_zero_or_pos N with h0 | h0
    · subst h0
      obtain rfl : k = 0 := by
        rcases hd with ⟨_, h⟩ | ⟨h, _⟩
        · exact h
        · omega
      exact layout_0 neg hT h
    · obtain ⟨z, hz⟩ : ∃ z, (Lib.decDigits N).length = z := ⟨_, rfl⟩
      by_cases c1 : 0 ≤ k ∧ (z : Int) + k ≤ 21
      · exact layout_1 neg k hT h hd h0 (by rw [hz]; exact c1)
      · by_cases c2 : k < 0 ∧ 0 < (z : Int) + k ∧ (z : Int) + k ≤ 21
        · exact layout_2 neg k hT h hd h0 (by rw [hz]; exact c2)
        · by_cases c3 : -6 < (z : Int) + k ∧ (z : Int) + k ≤ 0
          · exact layout_3 neg k hT h hd h0 (by rw [hz]; exact c3)
          · by_cases c4 : (z : Int) = 1
            · exact layout_4 neg k hT h hd h0 (by rw [hz]; exact ⟨by omega, c4⟩)
            · exact layout_5 neg k hT h hd h0 (by rw [hz]; exact ⟨by omega, c4⟩)
  · have hr : lyR neg N k = [] := by unfold lyR; rw [if_neg hd]
    rw [hr]
    exact layout_no neg k hT h hd
end Go.Proofs.YtehpneojiinmdaaGreatDoor
