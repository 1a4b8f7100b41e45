/- The nat layer, third part: sums and differences. Conditions: lengths below 2^39. -/
import Derived.Test.YtjhdkdfiadlmcaaGreatDoorNatB
import Derived.Shelf.Spec.BitsCarry
namespace Go.Proofs.YtjhdkdfiadlmcaaGreatDoor
open Go.RowKit Go.Cal
theorem info_u64 : (Tryz.prog.info? 36).map (fun i => (i.zero, i.size, i.bytes)) = some (some (.int .u64 0), 1, 8) := by kernel_rfl
theorem under_nat : Tryz.prog.underlying 23 = some (.slice 36) := by kernel_rfl
theorem run_add64 (x y c : Nat) (hc : c ≤ 1) (w : World) :
    (callFunc 96 #[.int .u64 x, .int .u64 y, .int .u64 c]).run Tryz.prog w =
      .ok (.value (.tuple #[.int .u64 (((x + y + c) % 18446744073709551616 : Nat) : Int), .int .u64 (((x + y + c) / 18446744073709551616 : Nat) : Int)])) w := by
  rw [run_callFunc_extern Tryz.func96 (by kernel_rfl) (by kernel_rfl) (by kernel_rfl) (e := add64Entry) (by kernel_rfl), Go.run_add64 x y c (by omega) (by omega) (by omega) (by omega)]
  simp only [Result.andThen]
  congr 5 <;> omega
/-- What was made, whole, without its noughts: the number that it is. -/
theorem trim_made {w wr : World} {g n N : Nat} {L : List Nat} (c : Nat) (hB : BlkU wr g 36 L) (hg : w.heap.size ≤ g) (hb : Below w.heap.size w wr) (hl : L.length = n) (hc : n ≤ c) (hc' : c ≤ 1099511627776) (hd : Dig 18446744073709551616 L) (hv : vl 18446744073709551616 L = N) :
    Calls Tryz.prog 28 #[.slice (some ⟨g, 0, none⟩) n c] wr (RetN w N) := by
  subst hl
  have hrd := hB.rd 0 L.length (by omega)
  simp at hrd
  refine (trim_any c wr hrd hc (by omega)).mono ?_
  rintro e w1 ⟨⟨zs, rfl, ⟨k, rfl⟩, ht, h4⟩, rfl⟩
  have hk := hB.got w.heap.size (min k L.length) hg (by omega) (by omega)
  have e1 : L.take (min k L.length) = L.take k := by
    rw [← List.take_take, List.take_of_length_le (Nat.le_refl L.length)]
  rw [e1] at hk
  refine ⟨_, _, L.take k, rfl, ?_, ⟨dig_take hd k, ht, (h4 _).trans hv⟩, hb⟩
  rw [List.length_take]
  exact hk
/-- What stands at the head of a round of a sum: so many words are summed, this carry is left. -/
structure AddRel (xs ys L : List Nat) (k c M : Nat) : Prop where
  len : L.length = M + 1
  dig : Dig 18446744073709551616 L
  carry : c ≤ 1
  zero : ∀ i, k ≤ i → L.getD i 0 = 0
  sum : vl 18446744073709551616 (L.take k) + 18446744073709551616 ^ k * c = vl 18446744073709551616 (xs.take k) + vl 18446744073709551616 (ys.take k)
theorem AddRel.start (xs ys : List Nat) (M : Nat) : AddRel xs ys (List.replicate (M + 1) 0) 0 0 M :=
  ⟨by simp, dig_zeros (by omega) _, by omega, fun i _ => by simp [List.getD_eq_getElem?_getD, List.getElem?_replicate]; split <;> rfl, by simp [vl]⟩
theorem AddRel.step {xs ys L : List Nat} {k c M x y : Nat} (h : AddRel xs ys L k c M) (hk : k < M + 1) (hx : xs.getD k 0 = x) (hy : ys.getD k 0 = y) (h1 : x < 18446744073709551616) (h2 : y < 18446744073709551616) :
    AddRel xs ys (L.set k ((x + y + c) % 18446744073709551616)) (k + 1) ((x + y + c) / 18446744073709551616) M := by
  have hc := h.carry
  refine ⟨by rw [List.length_set, h.len], dig_set h.dig _ (Nat.mod_lt _ (by omega)), by omega, fun i hi => by rw [Go.Cal.getD_set_ne (by omega)]; exact h.zero i (by omega), ?_⟩
  rw [vl_take_set (by rw [h.len]; omega), vl_getD, vl_getD, hx, hy, Nat.pow_succ]
  exact sum_step h.sum (by omega)
theorem add_carry {b R c X Y m n M : Nat} (h : R + b ^ (M + 1) * c = X + Y) (hxy : Y < b ^ n ∧ X < b ^ m) (hm : m ≤ M) (hn : n ≤ M) (hb : 2 ≤ b := by omega) : R = X + Y := by
  have h1 : b ^ m ≤ b ^ M := Nat.pow_le_pow_right (by omega) hm
  have h2 : b ^ n ≤ b ^ M := Nat.pow_le_pow_right (by omega) hn
  have h3 : b ^ M * 2 ≤ b ^ (M + 1) := by rw [Nat.pow_succ]; exact Nat.mul_le_mul_left _ hb
  have h4 : c = 0 := by
    rcases Nat.eq_zero_or_pos c with h | h'
    · exact h
    · have : b ^ (M + 1) * 1 ≤ b ^ (M + 1) * c := Nat.mul_le_mul_left _ h'
      omega
  subst h4
  simpa using h
set_option maxRecDepth 100000 in
set_option maxHeartbeats 1000000 in
theorem add_ge {A1 A2 : Option Addr} {xs ys : List Nat} (c1 c2 : Nat) (w : World) (h1 : RdU w w.heap.size A1 xs) (h2 : RdU w w.heap.size A2 ys) (hn : xs.length ≤ 549755813888)
    (d1 : Dig 18446744073709551616 xs) (d2 : Dig 18446744073709551616 ys) (hlt : ¬ xs.length < ys.length) :
    Calls Tryz.prog 71 #[.slice A1 xs.length c1, .slice A2 ys.length c2] w (RetN w (vl 18446744073709551616 xs + vl 18446744073709551616 ys)) := by
  have hmk := run_makeU (P := Tryz.prog) 23 36 under_nat info_u64 (xs.length + 1) (by omega)
  rw [Int.natCast_add, Int.natCast_one] at hmk
  have hx : xs.length ≤ xs.length := by omega
  have hy : ys.length ≤ xs.length := by omega
  replace d1 := Lib.hid d1
  replace d2 := Lib.hid d2
  go_enter Tryz.func71, Tryz.ntmps71
  go_wp2
  clear hmk
  go_loopw [6, 7, 17] (fun cv _ iv wr => ∃ (k c : Nat) (L : List Nat), k ≤ xs.length + 1 ∧ iv = .int .i64 k ∧ cv = .int .u64 c ∧ BlkU wr w.heap.size 36 L ∧ Below w.heap.size w wr ∧ AddRel xs ys L k c xs.length) (fun _ _ iv _ => xs.length + 1 - (intOf iv).toNat)
  case atStart => exact ⟨0, 0, _, by omega, rfl, rfl, BlkU.made w 36 _, (Below.refl _ _).alloc (Nat.le_refl _) _, .start xs ys _⟩
  case round =>
    obtain ⟨k, c, L, hk, rfl, rfl, hB, hbw, hR⟩ := hrel
    have hz := hbw.size
    by_cases hkm : k < xs.length + 1
    · have hi : (k : Int) < ((xs.length + 1 : Nat) : Int) := by omega
      obtain ⟨x, hxx⟩ : ∃ x, xs.getD k 0 = x := ⟨_, rfl⟩
      obtain ⟨y, hyy⟩ : ∃ y, ys.getD k 0 = y := ⟨_, rfl⟩
      have hx1 : x < 18446744073709551616 := hxx ▸ dig_getD (by omega) d1.out k
      have hy1 : y < 18446744073709551616 := hyy ▸ dig_getD (by omega) d2.out k
      have ca := at_any c1 k wr (h1.below hbw)
      have cb := at_any c2 k wr (h2.below hbw)
      rw [hxx] at ca
      rw [hyy] at cb
      have hst := hR.step hkm hxx hyy hx1 hy1
      have hadd := run_add64 x y c hR.carry
      have hcell := hB.cell k (by rw [hR.len]; omega)
      have hfr := hB.frozen k
      have hset := hB.set k ((x + y + c) % 18446744073709551616)
      generalize (x + y + c) % 18446744073709551616 = s at *
      generalize (x + y + c) / 18446744073709551616 = c' at *
      generalize L.getD k 0 = u at *
      replace ca := Lib.hid ca
      replace cb := Lib.hid cb
      replace hxx := Lib.hid hxx
      replace hyy := Lib.hid hyy
      go_wp2_with fail
      refine ca.out.mono ?_
      rintro e w1 ⟨rfl, rfl⟩
      go_wp2_with fail
      refine cb.out.mono ?_
      rintro e w1 ⟨rfl, rfl⟩
      go_wp2
      exact ⟨⟨k + 1, c', _, by omega, by go_num, rfl, hset, hbw.setCell (Nat.le_refl _) _, hst⟩, by simp [intOf]; omega⟩
    · have hk' : k = xs.length + 1 := by omega
      subst hk'
      have hv : vl 18446744073709551616 L = vl 18446744073709551616 xs + vl 18446744073709551616 ys := by
        have := hR.sum
        rw [vl_take_all L _ (by rw [hR.len]; exact Nat.le_refl _), vl_take_all xs _ (by omega), vl_take_all ys _ (by omega)] at this
        exact add_carry this (by have := vl_lt d1.out; have := vl_lt d2.out; exact ⟨this, ‹_›⟩) hx hy
      replace hv := Lib.hid hv
      go_wp2_with fail
      refine (trim_made _ hB (Nat.le_refl _) hbw hR.len (Nat.le_refl _) (by omega) hR.dig hv.out).mono ?_
      rintro e w1 ⟨A, c', zs, rfl, hg, hnrm, hb⟩
      go_wp2
      go_ret
      exact ⟨A, c', zs, rfl, hg, hnrm, hb⟩
set_option maxRecDepth 100000 in
set_option maxHeartbeats 1000000 in
theorem add_lt {A1 A2 : Option Addr} {xs ys : List Nat} (c1 c2 : Nat) (w : World) (h1 : RdU w w.heap.size A1 xs) (h2 : RdU w w.heap.size A2 ys) (hn : ys.length ≤ 549755813888)
    (d1 : Dig 18446744073709551616 xs) (d2 : Dig 18446744073709551616 ys) (hlt : xs.length < ys.length) :
    Calls Tryz.prog 71 #[.slice A1 xs.length c1, .slice A2 ys.length c2] w (RetN w (vl 18446744073709551616 xs + vl 18446744073709551616 ys)) := by
  have hmk := run_makeU (P := Tryz.prog) 23 36 under_nat info_u64 (ys.length + 1) (by omega)
  rw [Int.natCast_add, Int.natCast_one] at hmk
  have hx : xs.length ≤ ys.length := by omega
  have hy : ys.length ≤ ys.length := by omega
  replace d1 := Lib.hid d1
  replace d2 := Lib.hid d2
  go_enter Tryz.func71, Tryz.ntmps71
  go_wp2
  clear hmk
  go_loopw [6, 7, 17] (fun cv _ iv wr => ∃ (k c : Nat) (L : List Nat), k ≤ ys.length + 1 ∧ iv = .int .i64 k ∧ cv = .int .u64 c ∧ BlkU wr w.heap.size 36 L ∧ Below w.heap.size w wr ∧ AddRel xs ys L k c ys.length) (fun _ _ iv _ => ys.length + 1 - (intOf iv).toNat)
  case atStart => exact ⟨0, 0, _, by omega, rfl, rfl, BlkU.made w 36 _, (Below.refl _ _).alloc (Nat.le_refl _) _, .start xs ys _⟩
  case round =>
    obtain ⟨k, c, L, hk, rfl, rfl, hB, hbw, hR⟩ := hrel
    have hz := hbw.size
    by_cases hkm : k < ys.length + 1
    · have hi : (k : Int) < ((ys.length + 1 : Nat) : Int) := by omega
      obtain ⟨x, hxx⟩ : ∃ x, xs.getD k 0 = x := ⟨_, rfl⟩
      obtain ⟨y, hyy⟩ : ∃ y, ys.getD k 0 = y := ⟨_, rfl⟩
      have hx1 : x < 18446744073709551616 := hxx ▸ dig_getD (by omega) d1.out k
      have hy1 : y < 18446744073709551616 := hyy ▸ dig_getD (by omega) d2.out k
      have ca := at_any c1 k wr (h1.below hbw)
      have cb := at_any c2 k wr (h2.below hbw)
      rw [hxx] at ca
      rw [hyy] at cb
      have hst := hR.step hkm hxx hyy hx1 hy1
      have hadd := run_add64 x y c hR.carry
      have hcell := hB.cell k (by rw [hR.len]; omega)
      have hfr := hB.frozen k
      have hset := hB.set k ((x + y + c) % 18446744073709551616)
      generalize (x + y + c) % 18446744073709551616 = s at *
      generalize (x + y + c) / 18446744073709551616 = c' at *
      generalize L.getD k 0 = u at *
      replace ca := Lib.hid ca
      replace cb := Lib.hid cb
      replace hxx := Lib.hid hxx
      replace hyy := Lib.hid hyy
      go_wp2_with fail
      refine ca.out.mono ?_
      rintro e w1 ⟨rfl, rfl⟩
      go_wp2_with fail
      refine cb.out.mono ?_
      rintro e w1 ⟨rfl, rfl⟩
      go_wp2
      exact ⟨⟨k + 1, c', _, by omega, by go_num, rfl, hset, hbw.setCell (Nat.le_refl _) _, hst⟩, by simp [intOf]; omega⟩
    · have hk' : k = ys.length + 1 := by omega
      subst hk'
      have hv : vl 18446744073709551616 L = vl 18446744073709551616 xs + vl 18446744073709551616 ys := by
        have := hR.sum
        rw [vl_take_all L _ (by rw [hR.len]; exact Nat.le_refl _), vl_take_all xs _ (by omega), vl_take_all ys _ (by omega)] at this
        exact add_carry this (by have := vl_lt d1.out; have := vl_lt d2.out; exact ⟨this, ‹_›⟩) hx hy
      replace hv := Lib.hid hv
      go_wp2_with fail
      refine (trim_made _ hB (Nat.le_refl _) hbw hR.len (Nat.le_refl _) (by omega) hR.dig hv.out).mono ?_
      rintro e w1 ⟨A, c', zs, rfl, hg, hnrm, hb⟩
      go_wp2
      go_ret
      exact ⟨A, c', zs, rfl, hg, hnrm, hb⟩
theorem add_any {A1 A2 : Option Addr} {xs ys : List Nat} (c1 c2 : Nat) (w : World) (h1 : RdU w w.heap.size A1 xs) (h2 : RdU w w.heap.size A2 ys) (hn1 : xs.length ≤ 549755813888) (hn2 : ys.length ≤ 549755813888)
    (d1 : Dig 18446744073709551616 xs) (d2 : Dig 18446744073709551616 ys) : Calls Tryz.prog 71 #[.slice A1 xs.length c1, .slice A2 ys.length c2] w (RetN w (vl 18446744073709551616 xs + vl 18446744073709551616 ys)) := by
  by_cases h : xs.length < ys.length
  · exact add_lt c1 c2 w h1 h2 hn2 d1 d2 h
  · exact add_ge c1 c2 w h1 h2 hn1 d1 d2 h
end Go.Proofs.YtjhdkdfiadlmcaaGreatDoor
