/- The nat layer, third part: sums and differences. Conditions: lengths below 2^39. -/
/- The forms layer, walked, by the plain table. Condition: the table of the forms stands in its variable. -/
/- A scope with three labels: to one the run jumps forward, to two it jumps back. Conditions: none. -/
import Derived.Test.YtncfbleeidjflaaGreatDoorPz07
import Derived.Shelf.Spec.BitsCarry
import Derived.Test.YtncfbleeidjflaaGreatDoorPz02
import Derived.Test.YtncfbleeidjflaaGreatDoorRows
import Derived.ScopeJumps
namespace Go.Proofs.YtncfbleeidjflaaGreatDoor
open Go.RowKit Go.Cal
theorem info_u64 : (Tryz.prog.info? 22).map (fun i => (i.zero, i.size, i.bytes)) = some (some (.int .u64 0), 1, 8) := by kernel_rfl
theorem under_nat : Tryz.prog.underlying 33 = some (.slice 22) := by kernel_rfl
theorem run_add64 (x y c : Nat) (hc : c ≤ 1) (w : World) :
    (callFunc 114 #[.int .u64 x, .int .u64 y, .int .u64 c]).run Tryz.prog w =
      .ok (.value (.tuple #[.int .u64 (((x + y + c) % 18446744073709551616 : Nat) : Int), .int .u64 (((x + y + c) / 18446744073709551616 : Nat) : Int)])) w := by
  rw [run_callFunc_extern Tryz.func114 (by kernel_rfl) (by kernel_rfl) (by kernel_rfl) (e := add64Entry) (by kernel_rfl), Go.run_add64 x y c (by omega) (by omega) (by omega) (by omega)]
  simp only [Result.andThen]
  congr 5 <;> omega
theorem run_sub64' (x y b : Nat) (hb : b ≤ 1) (w : World) :
    (callFunc 207 #[.int .u64 x, .int .u64 y, .int .u64 b]).run Tryz.prog w =
      .ok (.value (.tuple #[.int .u64 (((x + 18446744073709551616 - y - b) % 18446744073709551616 : Nat) : Int), .int .u64 ((if x < y + b then 1 else 0 : Nat) : Int)])) w := by
  rw [run_callFunc_extern Tryz.func207 (by kernel_rfl) (by kernel_rfl) (by kernel_rfl) (e := Go.Proofs.sub64Entry) (by kernel_rfl), Go.Proofs.run_sub64 x y b hb]
  rfl
/-- What was made, whole, without its noughts: the number that it is. -/
theorem trim_made {w wr : World} {g n N : Nat} {L : List Nat} (c : Nat) (hB : BlkU wr g 22 L) (hg : w.heap.size ≤ g) (hb : Below w.heap.size w wr) (hl : L.length = n) (hc : n ≤ c) (hc' : c ≤ 1099511627776) (hd : Dig 18446744073709551616 L) (hv : vl 18446744073709551616 L = N) :
    Calls Tryz.prog 61 #[.slice (some ⟨g, 0, none⟩) n c] wr (RetN w N) := by
  subst hl
  have hrd := hB.rd 0 L.length (by omega)
  simp at hrd
  refine (trim_any c wr hrd hc (by omega)).mono ?_
  rintro e w1 ⟨⟨zs, rfl, ⟨k, rfl⟩, ht, h4⟩, rfl⟩
  have hk := hB.got w.heap.size (min k L.length) hg (by omega) (by omega)
  have e1 : L.take (min k L.length) = L.take k := by
    rw [← List.take_take, List.take_of_length_le (Nat.le_refl L.length)]
  rw [e1] at hk
  refine ⟨_, _, L.take k, rfl, ?_, ⟨dig_take hd k, ht, (h4 _).trans hv⟩, hb⟩
  rw [List.length_take]
  exact hk
/-- What stands at the head of a round of a sum: so many words are summed, this carry is left. -/
structure AddRel (xs ys L : List Nat) (k c M : Nat) : Prop where
  len : L.length = M + 1
  dig : Dig 18446744073709551616 L
  carry : c ≤ 1
  zero : ∀ i, k ≤ i → L.getD i 0 = 0
  sum : vl 18446744073709551616 (L.take k) + 18446744073709551616 ^ k * c = vl 18446744073709551616 (xs.take k) + vl 18446744073709551616 (ys.take k)
theorem AddRel.start (xs ys : List Nat) (M : Nat) : AddRel xs ys (List.replicate (M + 1) 0) 0 0 M :=
  ⟨by simp, dig_zeros (by omega) _, by omega, fun i _ => by simp [List.getD_eq_getElem?_getD, List.getElem?_replicate]; split <;> rfl, by simp [vl]⟩
theorem AddRel.step {xs ys L : List Nat} {k c M x y : Nat} (h : AddRel xs ys L k c M) (hk : k < M + 1) (hx : xs.getD k 0 = x) (hy : ys.getD k 0 = y) (h1 : x < 18446744073709551616) (h2 : y < 18446744073709551616) :
    AddRel xs ys (L.set k ((x + y + c) % 18446744073709551616)) (k + 1) ((x + y + c) / 18446744073709551616) M := by
  have hc := h.carry
  refine ⟨by rw [List.length_set, h.len], dig_set h.dig _ (Nat.mod_lt _ (by omega)), by omega, fun i hi => by rw [Go.Cal.getD_set_ne (by omega)]; exact h.zero i (by omega), ?_⟩
  rw [vl_take_set (by rw [h.len]; omega), vl_getD, vl_getD, hx, hy, Nat.pow_succ]
  exact sum_step h.sum (by omega)
theorem add_carry {b R c X Y m n M : Nat} (h : R + b ^ (M + 1) * c = X + Y) (hxy : Y < b ^ n ∧ X < b ^ m) (hm : m ≤ M) (hn : n ≤ M) (hb : 2 ≤ b := by omega) : R = X + Y := by
  have h1 : b ^ m ≤ b ^ M := Nat.pow_le_pow_right (by omega) hm
  have h2 : b ^ n ≤ b ^ M := Nat.pow_le_pow_right (by omega) hn
  have h3 : b ^ M * 2 ≤ b ^ (M + 1) := by rw [Nat.pow_succ]; exact Nat.mul_le_mul_left _ hb
  have h4 : c = 0 := by
    rcases Nat.eq_zero_or_pos c with h | h'
    · exact h
    · have : b ^ (M + 1) * 1 ≤ b ^ (M + 1) * c := Nat.mul_le_mul_left _ h'
      omega
  subst h4
  simpa using h
set_option maxRecDepth 100000 in
set_option maxHeartbeats 1000000 in
theorem add_ge {A1 A2 : Option Addr} {xs ys : List Nat} (c1 c2 : Nat) (w : World) (h1 : RdU w w.heap.size A1 xs) (h2 : RdU w w.heap.size A2 ys) (hn : xs.length ≤ 549755813888)
    (d1 : Dig 18446744073709551616 xs) (d2 : Dig 18446744073709551616 ys) (hlt : ¬ xs.length < ys.length) :
    Calls Tryz.prog 150 #[.slice A1 xs.length c1, .slice A2 ys.length c2] w (RetN w (vl 18446744073709551616 xs + vl 18446744073709551616 ys)) := by
  have hmk := run_makeU (P := Tryz.prog) 33 22 under_nat info_u64 (xs.length + 1) (by omega)
  rw [Int.natCast_add, Int.natCast_one] at hmk
  have hx : xs.length ≤ xs.length := by omega
  have hy : ys.length ≤ xs.length := by omega
  replace d1 := Lib.hid d1
  replace d2 := Lib.hid d2
  go_enter Tryz.func150, Tryz.ntmps150
  go_wp2
  clear hmk
  go_loopw [6, 7, 17] (fun cv _ iv wr => ∃ (k c : Nat) (L : List Nat), k ≤ xs.length + 1 ∧ iv = .int .i64 k ∧ cv = .int .u64 c ∧ BlkU wr w.heap.size 22 L ∧ Below w.heap.size w wr ∧ AddRel xs ys L k c xs.length) (fun _ _ iv _ => xs.length + 1 - (intOf iv).toNat)
  case atStart => exact ⟨0, 0, _, by omega, rfl, rfl, BlkU.made w 22 _, (Below.refl _ _).alloc (Nat.le_refl _) _, .start xs ys _⟩
  case round =>
    obtain ⟨k, c, L, hk, rfl, rfl, hB, hbw, hR⟩ := hrel
    have hz := hbw.size
    by_cases hkm : k < xs.length + 1
    · have hi : (k : Int) < ((xs.length + 1 : Nat) : Int) := by omega
      obtain ⟨x, hxx⟩ : ∃ x, xs.getD k 0 = x := ⟨_, rfl⟩
      obtain ⟨y, hyy⟩ : ∃ y, ys.getD k 0 = y := ⟨_, rfl⟩
      have hx1 : x < 18446744073709551616 := hxx ▸ dig_getD (by omega) d1.out k
      have hy1 : y < 18446744073709551616 := hyy ▸ dig_getD (by omega) d2.out k
      have ca := at_any c1 k wr (h1.below hbw)
      have cb := at_any c2 k wr (h2.below hbw)
      rw [hxx] at ca
      rw [hyy] at cb
      have hst := hR.step hkm hxx hyy hx1 hy1
      have hadd := run_add64 x y c hR.carry
      have hcell := hB.cell k (by rw [hR.len]; omega)
      have hfr := hB.frozen k
      have hset := hB.set k ((x + y + c) % 18446744073709551616)
      generalize (x + y + c) % 18446744073709551616 = s at *
      generalize (x + y + c) / 18446744073709551616 = c' at *
      generalize L.getD k 0 = u at *
      replace ca := Lib.hid ca
      replace cb := Lib.hid cb
      replace hxx := Lib.hid hxx
      replace hyy := Lib.hid hyy
      go_wp2_with fail
      refine ca.out.mono ?_
      rintro e w1 ⟨rfl, rfl⟩
      go_wp2_with fail
      refine cb.out.mono ?_
      rintro e w1 ⟨rfl, rfl⟩
      go_wp2
      exact ⟨⟨k + 1, c', _, by omega, by go_num, rfl, hset, hbw.setCell (Nat.le_refl _) _, hst⟩, by simp [intOf]; omega⟩
    · have hk' : k = xs.length + 1 := by omega
      subst hk'
      have hv : vl 18446744073709551616 L = vl 18446744073709551616 xs + vl 18446744073709551616 ys := by
        have := hR.sum
        rw [vl_take_all L _ (by rw [hR.len]; exact Nat.le_refl _), vl_take_all xs _ (by omega), vl_take_all ys _ (by omega)] at this
        exact add_carry this (by have := vl_lt d1.out; have := vl_lt d2.out; exact ⟨this, ‹_›⟩) hx hy
      replace hv := Lib.hid hv
      go_wp2_with fail
      refine (trim_made _ hB (Nat.le_refl _) hbw hR.len (Nat.le_refl _) (by omega) hR.dig hv.out).mono ?_
      rintro e w1 ⟨A, c', zs, rfl, hg, hnrm, hb⟩
      go_wp2
      go_ret
      exact ⟨A, c', zs, rfl, hg, hnrm, hb⟩
set_option maxRecDepth 100000 in
set_option maxHeartbeats 1000000 in
theorem add_lt {A1 A2 : Option Addr} {xs ys : List Nat} (c1 c2 : Nat) (w : World) (h1 : RdU w w.heap.size A1 xs) (h2 : RdU w w.heap.size A2 ys) (hn : ys.length ≤ 549755813888)
    (d1 : Dig 18446744073709551616 xs) (d2 : Dig 18446744073709551616 ys) (hlt : xs.length < ys.length) :
    Calls Tryz.prog 150 #[.slice A1 xs.length c1, .slice A2 ys.length c2] w (RetN w (vl 18446744073709551616 xs + vl 18446744073709551616 ys)) := by
  have hmk := run_makeU (P := Tryz.prog) 33 22 under_nat info_u64 (ys.length + 1) (by omega)
  rw [Int.natCast_add, Int.natCast_one] at hmk
  have hx : xs.length ≤ ys.length := by omega
  have hy : ys.length ≤ ys.length := by omega
  replace d1 := Lib.hid d1
  replace d2 := Lib.hid d2
  go_enter Tryz.func150, Tryz.ntmps150
  go_wp2
  clear hmk
  go_loopw [6, 7, 17] (fun cv _ iv wr => ∃ (k c : Nat) (L : List Nat), k ≤ ys.length + 1 ∧ iv = .int .i64 k ∧ cv = .int .u64 c ∧ BlkU wr w.heap.size 22 L ∧ Below w.heap.size w wr ∧ AddRel xs ys L k c ys.length) (fun _ _ iv _ => ys.length + 1 - (intOf iv).toNat)
  case atStart => exact ⟨0, 0, _, by omega, rfl, rfl, BlkU.made w 22 _, (Below.refl _ _).alloc (Nat.le_refl _) _, .start xs ys _⟩
  case round =>
    obtain ⟨k, c, L, hk, rfl, rfl, hB, hbw, hR⟩ := hrel
    have hz := hbw.size
    by_cases hkm : k < ys.length + 1
    · have hi : (k : Int) < ((ys.length + 1 : Nat) : Int) := by omega
      obtain ⟨x, hxx⟩ : ∃ x, xs.getD k 0 = x := ⟨_, rfl⟩
      obtain ⟨y, hyy⟩ : ∃ y, ys.getD k 0 = y := ⟨_, rfl⟩
      have hx1 : x < 18446744073709551616 := hxx ▸ dig_getD (by omega) d1.out k
      have hy1 : y < 18446744073709551616 := hyy ▸ dig_getD (by omega) d2.out k
      have ca := at_any c1 k wr (h1.below hbw)
      have cb := at_any c2 k wr (h2.below hbw)
      rw [hxx] at ca
      rw [hyy] at cb
      have hst := hR.step hkm hxx hyy hx1 hy1
      have hadd := run_add64 x y c hR.carry
      have hcell := hB.cell k (by rw [hR.len]; omega)
      have hfr := hB.frozen k
      have hset := hB.set k ((x + y + c) % 18446744073709551616)
      generalize (x + y + c) % 18446744073709551616 = s at *
      generalize (x + y + c) / 18446744073709551616 = c' at *
      generalize L.getD k 0 = u at *
      replace ca := Lib.hid ca
      replace cb := Lib.hid cb
      replace hxx := Lib.hid hxx
      replace hyy := Lib.hid hyy
      go_wp2_with fail
      refine ca.out.mono ?_
      rintro e w1 ⟨rfl, rfl⟩
      go_wp2_with fail
      refine cb.out.mono ?_
      rintro e w1 ⟨rfl, rfl⟩
      go_wp2
      exact ⟨⟨k + 1, c', _, by omega, by go_num, rfl, hset, hbw.setCell (Nat.le_refl _) _, hst⟩, by simp [intOf]; omega⟩
    · have hk' : k = ys.length + 1 := by omega
      subst hk'
      have hv : vl 18446744073709551616 L = vl 18446744073709551616 xs + vl 18446744073709551616 ys := by
        have := hR.sum
        rw [vl_take_all L _ (by rw [hR.len]; exact Nat.le_refl _), vl_take_all xs _ (by omega), vl_take_all ys _ (by omega)] at this
        exact add_carry this (by have := vl_lt d1.out; have := vl_lt d2.out; exact ⟨this, ‹_›⟩) hx hy
      replace hv := Lib.hid hv
      go_wp2_with fail
      refine (trim_made _ hB (Nat.le_refl _) hbw hR.len (Nat.le_refl _) (by omega) hR.dig hv.out).mono ?_
      rintro e w1 ⟨A, c', zs, rfl, hg, hnrm, hb⟩
      go_wp2
      go_ret
      exact ⟨A, c', zs, rfl, hg, hnrm, hb⟩
theorem add_any {A1 A2 : Option Addr} {xs ys : List Nat} (c1 c2 : Nat) (w : World) (h1 : RdU w w.heap.size A1 xs) (h2 : RdU w w.heap.size A2 ys) (hn1 : xs.length ≤ 549755813888) (hn2 : ys.length ≤ 549755813888)
    (d1 : Dig 18446744073709551616 xs) (d2 : Dig 18446744073709551616 ys) : Calls Tryz.prog 150 #[.slice A1 xs.length c1, .slice A2 ys.length c2] w (RetN w (vl 18446744073709551616 xs + vl 18446744073709551616 ys)) := by
  by_cases h : xs.length < ys.length
  · exact add_lt c1 c2 w h1 h2 hn2 d1 d2 h
  · exact add_ge c1 c2 w h1 h2 hn1 d1 d2 h
end Go.Proofs.YtncfbleeidjflaaGreatDoor
namespace Go.Proofs.YtncfbleeidjflaaGreatDoor
open Go.RowKit Go.Cal
/-- The table stands in its block of the world. -/
def TabF (w : World) : Prop := 1 < w.heap.size ∧ ∀ id : Int, 1 ≤ id → id < 15 →
  w.cell? ⟨1, id.toNat * 7, none⟩ = some (.int .i64 (fK id)) ∧
  w.cell? ⟨1, id.toNat * 7 + 1, none⟩ = some (.int .i64 (fW id)) ∧
  w.cell? ⟨1, id.toNat * 7 + 2, none⟩ = some (.int .i64 (fM id)) ∧
  w.cell? ⟨1, id.toNat * 7 + 3, none⟩ = some (.int .i64 (fB id)) ∧
  w.cell? ⟨1, id.toNat * 7 + 4, none⟩ = some (.int .u64 (fT id)) ∧
  w.cell? ⟨1, id.toNat * 7 + 5, none⟩ = some (.int .u64 (fI id)) ∧
  w.cell? ⟨1, id.toNat * 7 + 6, none⟩ = some (.int .u64 (fN id))
theorem TabF.below {w w' : World} (h : TabF w) (hb : Below w.heap.size w w') : TabF w' := by
  have hc := (bcell hb).1
  refine ⟨Nat.lt_of_lt_of_le h.1 hb.size, fun id h1 h2 => ?_⟩
  have := h.2 id h1 h2
  simp only [hc _ _ h.1]
  exact this
theorem TabF.alloc {w : World} (h : TabF w) (o : Obj) : TabF (w.alloc o) := h.below ((Below.refl _ _).alloc (Nat.le_refl _) o)

theorem mask_pure (wi : Int) (h0 : 0 ≤ wi) (h1 : wi ≤ 64) : IntKind.u64.wrap (IntKind.u64.wrap (2 ^ wi.toNat) - 1) = 2 ^ wi.toNat - 1 := by
  rw [wrap_u64, wrap_u64]
  by_cases h : wi = 64
  · subst h; decide
  · have := pow_le63 wi.toNat (by omega)
    have := pow_pos wi.toNat
    omega

set_option maxHeartbeats 400000 in
theorem fo_of (id : Int) (w : World) (hT : TabF w) (h1 : 1 ≤ id) (h2 : id < 15) :
    Calls Tryz.prog 32 #[.int .i64 id] w fun e w' => e = .returned (.tuple #[.agg #[.int .i64 (fK id), .int .i64 (fW id), .int .i64 (fM id), .int .i64 (fB id), .int .u64 (fT id), .int .u64 (fI id), .int .u64 (fN id)], .int .i64 0]) ∧ Below w.heap.size w w' := by
  obtain ⟨hz, hT'⟩ := hT
  obtain ⟨c0, c1, c2, c3, c4, c5, c6⟩ := hT' id h1 h2
  clear hT'
  go_enter Tryz.func32, Tryz.ntmps32
  go_wp2
  refine bodyPost_ret (v := .tuple #[.agg #[.int .i64 (fK id), .int .i64 (fW id), .int .i64 (fM id), .int .i64 (fB id), .int .u64 (fT id), .int .u64 (fI id), .int .u64 (fN id)], .int .i64 0]) (by simp [results, Tryz.results32, go_sem]) rfl ⟨rfl, ?_⟩
  exact ((Below.refl _ _).alloc (Nat.le_refl _) _)
set_option maxHeartbeats 400000 in
theorem fo_none (id : Int) (w : World) (h1 : id < 1 ∨ 15 ≤ id) :
    Calls Tryz.prog 32 #[.int .i64 id] w fun e w' => e = .returned (.tuple #[.agg #[.int .i64 0, .int .i64 0, .int .i64 0, .int .i64 0, .int .u64 0, .int .u64 0, .int .u64 0], .int .i64 3]) ∧ Below w.heap.size w w' := by
  rcases h1 with h1 | h1
  all_goals
    go_enter Tryz.func32, Tryz.ntmps32
    go_wp2
    refine bodyPost_ret (v := .tuple #[.agg #[.int .i64 0, .int .i64 0, .int .i64 0, .int .i64 0, .int .u64 0, .int .u64 0, .int .u64 0], .int .i64 3]) (by simp [results, Tryz.results32, go_sem]) rfl ⟨rfl, ?_⟩
    exact ((Below.refl _ _).alloc (Nat.le_refl _) _)

theorem fo_mask (k wi ma bi tp nf na : Int) (w : World) (h0 : 0 ≤ wi) (h1 : wi ≤ 64) :
    Calls Tryz.prog 165 #[.agg #[.int .i64 k, .int .i64 wi, .int .i64 ma, .int .i64 bi, .int .u64 tp, .int .u64 nf, .int .u64 na]] w fun e w' => e = .returned (.int .u64 (2 ^ wi.toNat - 1)) ∧ Below w.heap.size w w' := by
  have hp := Lib.hid (mask_pure wi h0 h1)
  go_enter Tryz.func165, Tryz.ntmps165
  go_wp2
  go_ret
  refine ⟨?_, (Below.refl _ _).alloc (Nat.le_refl _) _⟩
  rw [hp.out]; rfl
theorem andNot_half (n : Nat) (h : n ≤ 63) : bits .andNot .u64 (2 ^ (n + 1) - 1) ((2 ^ (n + 1) - 1) / 2) = 2 ^ n :=
  (by decide +kernel : ∀ n : Fin 64, bits .andNot .u64 (2 ^ (n.val + 1) - 1) ((2 ^ (n.val + 1) - 1) / 2) = 2 ^ n.val) ⟨n, by omega⟩
theorem fo_sign (k wi ma bi tp nf na : Int) (w : World) (h0 : 1 ≤ wi) (h1 : wi ≤ 64) (hk : k ≠ 4) :
    Calls Tryz.prog 89 #[.agg #[.int .i64 k, .int .i64 wi, .int .i64 ma, .int .i64 bi, .int .u64 tp, .int .u64 nf, .int .u64 na]] w fun e w' => e = .returned (.int .u64 (2 ^ (wi.toNat - 1))) ∧ Below w.heap.size w w' := by
  have cc := fun (u : Later (w.heap.size + 1) (w.alloc (.cells #[.int .i64 k, .int .i64 wi, .int .i64 ma, .int .i64 bi, .int .u64 tp, .int .u64 nf, .int .u64 na] 58))) => u.box7 w 58 _ _ _ _ _ _ _ rfl
  obtain ⟨c0, c1, c2, c3, c4, c5, c6⟩ := forall7 cc
  clear cc
  have hs := andNot_half (wi.toNat - 1) (by omega)
  rw [show wi.toNat - 1 + 1 = wi.toNat by omega] at hs
  replace hs := Lib.hid hs
  go_enter Tryz.func89, Tryz.ntmps89
  go_wp2
  refine wp_region_later (B := w.heap.size + 1) (by kernel_rfl) (by kernel_rfl) (Below.refl _ _) ?_
  repeat (go_big_quiet_step ((go_at_call 165; refine Calls.later_of (by simp) (fo_mask _ _ _ _ _ _ _ _ (by omega) (by omega)))))
  refine wpQuiet_nil ?_
  intro w1 hb1
  go_wp2
  go_ret
  refine ⟨?_, ((Below.refl _ _).alloc (Nat.le_refl _) _).trans (hb1.mono (by omega))⟩
  rw [hs.out]; rfl
theorem fo_nosign (wi ma bi tp nf na : Int) (w : World) :
    Calls Tryz.prog 89 #[.agg #[.int .i64 4, .int .i64 wi, .int .i64 ma, .int .i64 bi, .int .u64 tp, .int .u64 nf, .int .u64 na]] w fun e w' => e = .returned (.int .u64 0) ∧ Below w.heap.size w w' := by
  go_enter Tryz.func89, Tryz.ntmps89
  go_wp2
  go_ret
  exact ⟨rfl, ((Below.refl _ _).alloc (Nat.le_refl _) _)⟩


theorem over_mask {p : Int} {n : Nat} (hp : 0 ≤ p) : (p / 2 ^ n * 2 ^ n = 0) ↔ p < 2 ^ n := by
  have hq := pow_pos n
  constructor
  · intro hh
    rcases Int.mul_eq_zero.1 hh with h3 | h3
    · have := Int.lt_ediv_add_one_mul_self p hq
      rw [h3] at this; simpa using this
    · omega
  · intro h
    rw [Int.ediv_eq_zero_of_lt hp h, Int.zero_mul]
set_option maxHeartbeats 400000 in
theorem fo_fits (id p : Int) (w : World) (hT : TabF w) (hp0 : 0 ≤ p) (hp1 : p < 18446744073709551616) :
    Calls Tryz.prog 135 #[.int .i64 id, .int .u64 p] w fun e w' => e = .returned (.int .i64 (fitsV id p)) ∧ Below w.heap.size w w' := by
  by_cases hid : id < 1 ∨ 15 ≤ id
  · have hv := Lib.hid (show fitsV id p = 3 by unfold fitsV; rw [if_pos hid])
    go_enter Tryz.func135, Tryz.ntmps135
    go_wp2_with fail
    refine (fo_none _ _ hid).mono ?_
    rintro e w1 ⟨rfl, hb⟩
    obtain ⟨hc, hf⟩ := bcell hb
    go_wp2
    go_ret
    refine ⟨by rw [hv.out]; rfl, ?_⟩
    exact hb.alloc hb.size _
  · have h1 : 1 ≤ id := by omega
    have h2 : id < 15 := by omega
    clear hid
    obtain ⟨hw0, hw1, -⟩ := ft_bounds id
    have hm := Lib.hid (over_mask (n := (fW id).toNat) hp0)
    have ha := Lib.hid (andNot_mask p (fW id).toNat hp0 hp1 (by omega))
    by_cases hlt : p < 2 ^ (fW id).toNat
    all_goals
      have hv := Lib.hid (show fitsV id p = _ by unfold fitsV; rw [if_neg (by omega)])
      go_enter Tryz.func135, Tryz.ntmps135
      go_wp2_with fail
      refine (fo_of _ _ hT h1 h2).mono ?_
      rintro e w1 ⟨rfl, hb⟩
      obtain ⟨hc, hf⟩ := bcell hb
      have hz := hb.size
      go_wp2_with fail
      refine (fo_mask _ _ _ _ _ _ _ _ hw0 hw1).mono ?_
      rintro e w2 ⟨rfl, hb2⟩
      have hd : (bits BinOp.andNot IntKind.u64 p (2 ^ (fW id).toNat - 1) != 0) = decide (¬ p < 2 ^ (fW id).toNat) := by
        rw [ha.out, Bool.eq_iff_iff, bne_iff_ne, decide_eq_true_iff, ne_eq, hm.out]
      simp [hlt] at hd
      go_wp2
      go_ret
      refine ⟨by rw [hv.out]; simp [hlt], ?_⟩
      exact (hb.alloc hz _).trans (hb2.mono (by simp; omega))
theorem half_mod (p : Int) (w : Nat) (h0 : 0 ≤ p) (h1 : p < 2 ^ (w + 1)) (hw : w ≤ 63) : bits .andNot .u64 p (2 ^ w) = p % 2 ^ w := by
  have hq := pow_le63 w hw
  have hq0 := pow_pos w
  have e : (2 : Int) ^ (w + 1) = 2 * 2 ^ w := by rw [Int.pow_succ]; omega
  rw [u64_andNot p _ h0 (by omega) (by omega) (by omega)]
  obtain ⟨n, rfl⟩ := Int.eq_ofNat_of_zero_le h0
  have e2 : ((2 : Int) ^ w).toNat = 2 ^ w := by
    have e : ((2:Nat)^w : Nat) = ((2:Int)^w) := by push_cast; rfl
    omega
  have h1' : n < 2 ^ (w + 1) := by exact_mod_cast h1
  have h64 : 2 ^ w < 2 ^ 64 := Nat.pow_lt_pow_right (by omega) (by omega)
  rw [e2, Int.toNat_natCast, show (18446744073709551615 - 2 ^ w : Nat) = 2 ^ 64 - (2 ^ w + 1) by omega]
  have : n &&& (2 ^ 64 - (2 ^ w + 1)) = n % 2 ^ w := by
    apply Nat.eq_of_testBit_eq
    intro i
    rw [Nat.testBit_and, Nat.testBit_two_pow_sub_succ h64, Nat.testBit_two_pow, Nat.testBit_mod_two_pow]
    by_cases hi : i < w
    · simp [hi, show i < 64 by omega, show ¬ w = i by omega]
    · by_cases hj : i = w
      · simp [hj]
      · have : n.testBit i = false := Nat.testBit_lt_two_pow (Nat.lt_of_lt_of_le h1' (Nat.pow_le_pow_right (n := 2) (i := w + 1) (j := i) (by omega) (by omega)))
        simp [this]
  rw [this]; push_cast; rfl
end Go.Proofs.YtncfbleeidjflaaGreatDoor
namespace Go.Cal
section
variable {P : Program} {a : Act} {w : World} {Q : Exit → Act → World → Prop}
/-- From code on: it ends as Q says, whatever is asked at a goto. -/
def Goes (P : Program) (Q : Exit → Act → World → Prop) (r : Code) (G : Nat → Act → World → Prop) (a : Act) (w : World) : Prop :=
  ∀ Q' : Exit → Act → World → Prop, (∀ a' w', Q .ret a' w' → Q' .ret a' w') → (∀ l a' w', G l a' w' → Q' (.goto l) a' w') → r.wp P Q' a w
theorem Goes.skip {r : Code} {G : Nat → Act → World → Prop} (h : Goes P Q r G a w) : Goes P Q (Code.skip.seq r) G a w := fun Q' h1 h2 => wp_seq (wp_skip (h Q' h1 h2))
end
/-- What some slots of a frame hold. -/
def Has (a : Act) : List (Nat × Value) → Prop
  | [] => True
  | kv :: l => a.tmps.getD kv.1 undef = kv.2 ∧ Has a l
def Fr (n : Nat) (a : Act) (l : List (Nat × Value)) : Prop := a.defers = [] ∧ a.tmps.size = n ∧ Has a l
theorem Has.get {a : Act} {k : Nat} {v : Value} : ∀ {l : List (Nat × Value)}, Has a l → l.lookup k = some v → a.tmps.getD k undef = v
  | [], _, h => by simp at h
  | (k', v') :: l, hh, h => by
    rw [List.lookup_cons] at h
    split at h
    · rename_i e
      have e2 : k = k' := by simpa using e
      subst e2
      rw [hh.1]
      exact Option.some.inj h
    · exact hh.2.get h
/-- A frame, written out: the slots that are not told hold something. -/
theorem Fr.lit {n : Nat} {a : Act} {l : List (Nat × Value)} (h : Fr n a l) : ∃ u : Nat → Value, a = { tmps := ((List.range n).map fun k => (l.lookup k).getD (u k)).toArray, defers := [] } := by
  obtain ⟨h1, h2, h3⟩ := h
  refine ⟨fun k => a.tmps.getD k undef, ?_⟩
  obtain ⟨tmps, defers⟩ := a
  simp only at h1 h2
  subst h1
  congr 1
  apply Array.ext
  · simpa using h2
  · intro i hi1 hi2
    have e1 : tmps.getD i undef = tmps[i] := by simp [Array.getD, hi1]
    have e2 : ((List.range n).map fun k => (l.lookup k).getD (tmps.getD k undef)).toArray[i] = (l.lookup i).getD (tmps.getD i undef) := by simp
    show tmps[i] = ((List.range n).map fun k => (l.lookup k).getD (tmps.getD k undef)).toArray[i]
    rw [e2]
    cases hl : l.lookup i with
    | none => rw [Option.getD_none, e1]
    | some v =>
      rw [Option.getD_some, ← e1]
      exact Has.get (a := ⟨tmps, []⟩) h3 hl
end Go.Cal
