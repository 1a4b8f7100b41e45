/- The nat layer: Pow. Conditions: none. -/
/- The numeral of a word: strconv.FormatUint at base 10. Condition: the table of powers reads as it is laid. -/
import Derived.Test.YtdlkfnkmdlcekaaGreatDoorFo13
import Derived.Lib.AppendIntMem
namespace Go.Proofs.YtdlkfnkmdlcekaaGreatDoor
open Go.RowKit Go.Cal
/-- At the head of a round. -/
def PowRel (w wr : World) (base n0 : Nat) (nv ov sv : Value) : Prop :=
  ∃ (n q p : Nat) (A1 : Option Addr) (c1 : Nat) (z1 : List Nat) (A2 : Option Addr) (c2 : Nat) (z2 : List Nat), nv = .int .i64 n ∧ ov = .slice A1 z1.length c1 ∧ sv = .slice A2 z2.length c2 ∧
    GotW wr w.heap.size A1 c1 z1 ∧ Nrm z1 (base ^ q) ∧ GotW wr w.heap.size A2 c2 z2 ∧ Nrm z2 (base ^ p) ∧ Below w.heap.size w wr ∧ q + p * n = n0 ∧ p ≤ n0 + 1 ∧ 1 ≤ p
theorem pow_len' {z : List Nat} {base p k : Nat} (hb : base < 18446744073709551616) (hp : p ≤ k) (h : Nrm z (base ^ p)) : z.length ≤ k + 1 := by
  refine h.length_le ?_
  have h1 : base ^ p ≤ 18446744073709551616 ^ p := Nat.pow_le_pow_left (by omega) p
  have h2 : 18446744073709551616 ^ p ≤ 18446744073709551616 ^ k := Nat.pow_le_pow_right (by omega) hp
  have h3 : 18446744073709551616 ^ k < 18446744073709551616 ^ (k + 1) := Nat.pow_lt_pow_right (by omega) (by omega)
  exact Nat.lt_of_le_of_lt (Nat.le_trans h1 h2) h3
theorem pow_len {z : List Nat} {base p : Nat} (hb : base < 18446744073709551616) (hp : p ≤ 10001) (h : Nrm z (base ^ p)) : z.length ≤ 10002 := pow_len' hb hp h
set_option maxRecDepth 100000 in
set_option maxHeartbeats 2000000 in
theorem pow_min (base : Nat) (hb : base < 18446744073709551616) (n : Int) (n0 : Nat) (hmin : min (max n 0) 10000 = (n0 : Int)) (w : World) :
    Calls Tryz.prog 68 #[.int .u64 base, .int .i64 n] w (RetW w (base ^ n0)) := by
  have hn0 : n0 ≤ 10000 := by omega
  go_enter Tryz.func68, Tryz.ntmps68
  go_wp2_with fail
  refine (of_any 1 (by omega) w).mono ?_
  rintro e w1 ⟨A1, c1, z1, rfl, g1, n1, hb1⟩
  have hz1 := hb1.size
  go_wp2_with fail
  refine (of_any base hb w1).mono ?_
  rintro e w2 ⟨A2, c2, z2, rfl, g2, n2, hb2⟩
  have hz2 := hb2.size
  have g1' := g1.below hb2
  have g2' := gotW_base g2 hz1
  have hb12 := chain hb1 hb2
  clear g1 g2 hb1 hb2
  go_wp2
  clear hmin
  go_loopw [1, 5, 6] (fun nv ov sv wr => PowRel w wr base n0 nv ov sv) (fun nv _ _ _ => (intOf nv).toNat)
  case atStart => exact ⟨n0, 0, 1, A1, c1, z1, A2, c2, z2, rfl, rfl, rfl, g1', by rw [Nat.pow_zero]; exact n1, g2', by rw [Nat.pow_one]; exact n2, hb12, by omega, by omega, by omega⟩
  case round =>
    clear g1' g2' hb12 n1 n2 hz1 hz2
    obtain ⟨n, q, p, A1, c1, z1, A2, c2, z2, rfl, rfl, rfl, g1, n1, g2, n2, hbw, hq, hp, hp1⟩ := hrel
    have hzw := hbw.size
    by_cases h0 : n = 0
    · subst h0
      rw [Nat.mul_zero, Nat.add_zero] at hq
      subst hq
      go_wp2
      go_ret
      exact ⟨A1, c1, z1, rfl, g1, n1, hbw⟩
    · have hpn : n ≤ p * n := Nat.le_mul_of_pos_left n hp1
      have hn : n ≤ 10000 := by omega
      have hl1 := pow_len hb (by omega) n1
      have hl2 := pow_len hb (by omega) n2
      obtain ⟨m, hm⟩ : ∃ m, n / 2 = m := ⟨_, rfl⟩
      have hm' : (n : Int) / 2 = (m : Int) := by omega
      have hn0' : (0 : Int) < (n : Int) := by omega
      have r1 := (g1.rd)
      have r2 := (g2.rd)
      by_cases hodd : n % 2 = 1
      · have ho : ((n : Int) % 2 == 1) = true := by simp; omega
        have hnm : n = 2 * m + 1 := by omega
        have hq2 : q + p + (p + p) * m = n0 := by rw [← hq, hnm, Nat.mul_add, ← Nat.mul_assoc, Nat.mul_one, Nat.mul_two]; omega
        replace hm := Lib.hid hm
        replace hq := Lib.hid hq
        replace hq2 := Lib.hid hq2
        replace hnm := Lib.hid hnm
        replace hodd := Lib.hid hodd
        go_wp2_with fail
        refine (mul_any c1 c2 wr r1 r2 (by omega) (by omega) n1.dig n2.dig).mono ?_
        rintro e w3 ⟨A3, c3, z3, rfl, g3, n3, hb3⟩
        have hz3 := hb3.size
        rw [n1.val, n2.val, ← Nat.pow_add] at n3
        have g2' := g2.below hb3
        have g3' := gotW_base (gotU_toW g3) hzw
        have hbw' := chain hbw hb3
        by_cases hgt : 1 < n
        · have hgt' : (1 : Int) < (n : Int) := by omega
          go_wp2_with fail
          refine (mul_any c2 c2 w3 g2'.rd g2'.rd (by omega) (by omega) n2.dig n2.dig).mono ?_
          rintro e w4 ⟨A4, c4, z4, rfl, g4, n4, hb4⟩
          rw [n2.val, ← Nat.pow_add] at n4
          have hz4 := hb4.size
          have hle : p + p ≤ n0 + 1 := by
            have h1 := hq.out
            have h2 : p * 2 ≤ p * n := Nat.mul_le_mul_left p hgt
            omega
          go_wp2
          exact ⟨⟨m, q + p, p + p, A3, c3, z3, A4, c4, z4, rfl, rfl, rfl, g3'.below hb4, n3, gotW_base (gotU_toW g4) (by omega), n4, chain hbw' hb4, hq2.out, hle, by omega⟩, by simp [intOf]; have := hm.out; omega⟩
        · have hgt' : ¬ (1 : Int) < (n : Int) := by omega
          have hm0 : m = 0 := by have := hnm.out; omega
          have hend : q + p + p * m = n0 := by have := hq2.out; rw [hm0] at this ⊢; simpa using this
          replace hm0 := Lib.hid hm0
          replace hend := Lib.hid hend
          go_wp2
          exact ⟨⟨m, q + p, p, A3, c3, z3, A2, c2, z2, rfl, rfl, rfl, g3', n3, g2', n2, hbw', hend.out, hp, hp1⟩, by simp [intOf]; have := hm.out; omega⟩
      · have ho : ((n : Int) % 2 == 1) = false := by simp; omega
        have hnm : n = 2 * m := by omega
        have hq2 : q + (p + p) * m = n0 := by rw [← hq, hnm, ← Nat.mul_assoc, Nat.mul_two]
        have hgt' : (1 : Int) < (n : Int) := by omega
        have hgt : 1 < n := by omega
        have hle : p + p ≤ n0 + 1 := by
          have h2 : p * 2 ≤ p * n := Nat.mul_le_mul_left p hgt
          omega
        replace hm := Lib.hid hm
        replace hq := Lib.hid hq
        replace hq2 := Lib.hid hq2
        replace hnm := Lib.hid hnm
        replace hodd := Lib.hid hodd
        go_wp2_with fail
        refine (mul_any c2 c2 wr r2 r2 (by omega) (by omega) n2.dig n2.dig).mono ?_
        rintro e w4 ⟨A4, c4, z4, rfl, g4, n4, hb4⟩
        rw [n2.val, ← Nat.pow_add] at n4
        go_wp2
        exact ⟨⟨m, q, p + p, A1, c1, z1, A4, c4, z4, rfl, rfl, rfl, g1.below hb4, n1, gotW_base (gotU_toW g4) hzw, n4, chain hbw hb4, hq2.out, hle, by omega⟩, by simp [intOf]; have := hm.out; omega⟩
theorem pow_any (base : Nat) (hb : base < 18446744073709551616) (n : Int) (w : World) :
    Calls Tryz.prog 68 #[.int .u64 base, .int .i64 n] w (RetW w (base ^ (min (max n 0) 10000).toNat)) :=
  pow_min base hb n _ (by omega) w
end Go.Proofs.YtdlkfnkmdlcekaaGreatDoor
namespace Go.Proofs.YtdlkfnkmdlcekaaGreatDoor
open Go.RowKit Go.Cal Go.Sort
/-- The table of powers. -/
def Tab10 (w : World) : Prop := Lib.TabIs Tryz.prog w "internal/strconv.uint64pow10" .u64 Lib.pow10Tab
theorem var_keep {P : Program} {w w' : World} {name : String} {cs : Array Value} (h : w.var? P name = some cs) (hb : Below w.heap.size w w') : w'.var? P name = some cs := by
  unfold World.var? at *
  cases hg : P.globalNamed name with
  | none => simp [hg] at h
  | some g =>
    simp only [hg, Option.bind_some] at h ⊢
    have hlt : g < w.heap.size := by
      rcases Nat.lt_or_ge g w.heap.size with h' | h'
      · exact h'
      · rw [Array.getElem?_eq_none h'] at h; simp at h
    rw [hb.block g hlt]
    exact h
theorem Tab10.below {w w' : World} (h : Tab10 w) (hb : Below w.heap.size w w') : Tab10 w' := var_keep h hb
theorem Tab10.chain {w wa w' : World} (h : Tab10 wa) (hb : Below w.heap.size w w') (ha : w.heap.size = wa.heap.size) (he : ∀ g, g < w.heap.size → wa.heap[g]? = w.heap[g]?) : Tab10 w' := by
  unfold Tab10 Lib.TabIs World.var? at *
  cases hg : Tryz.prog.globalNamed "internal/strconv.uint64pow10" with
  | none => simp [hg] at h
  | some g =>
    simp only [hg, Option.bind_some] at h ⊢
    have hlt : g < w.heap.size := by
      rcases Nat.lt_or_ge g w.heap.size with h' | h'
      · exact h'
      · rw [Array.getElem?_eq_none (by omega)] at h; simp at h
    rw [hb.block g hlt, ← he g hlt]
    exact h
theorem grow_below {w : World} {k : Nat} {os : Array Obj} (B : Nat) (hB : B ≤ w.heap.size) : Below B w (grow (w.drewN k) os) := by
  refine ⟨rfl, rfl, rfl, by simp [grow], fun j hj => ?_⟩
  simp [grow, Array.getElem?_append, show j < w.heap.size by omega]
theorem fin_zero (w : World) (o : Obj) (dk : Array UInt8) (k : Nat) : ∃ os, (putRow (fun (b : UInt8) => Value.int .u8 (b.toNat : Int)) (w.alloc o) w.heap.size 0 dk).drewN k = grow (w.drewN k) os := by
  rw [alloc_eq_grow]
  obtain ⟨os', _, e⟩ := putRow_grow_new (fun (b : UInt8) => Value.int .u8 (b.toNat : Int)) w #[o] w.heap.size 0 dk (Nat.le_refl _)
  exact ⟨os', by rw [e]; rfl⟩
set_option maxHeartbeats 6400000 in
set_option maxRecDepth 100000 in
theorem ifu_any (u : Nat) (hu64 : u < 18446744073709551616) (w : World) (hT : Tab10 w) :
    Calls Tryz.prog 85 #[.int .u64 u, .int .i64 10] w fun e w' => e = .returned (.string ⟨(Lib.decDigits u).toArray⟩) ∧ Below w.heap.size w w' := by
  by_cases hs : u < 100
  · have hs' : (u : Int) < 100 := by omega
    go_enter Tryz.func85, Tryz.ntmps85
    go_wp2_with fail
    refine (Tryz.internal_strconv_small u hs w).mono ?_
    rintro e w' ⟨rfl, rfl⟩
    go_wp2
    go_ret
    exact ⟨rfl, .refl _ _⟩
  · have hs' : ¬ (u : Int) < 100 := by omega
    have hu1 : 1 ≤ u := by omega
    have hnd20 : Lib.nDigits u ≤ 20 := by have := Lib.numDigits_eq u hu1 hu64; split at this <;> omega
    have hal : Tryz.prog.arrayLen 178 = 24 := by kernel_rfl
    have hH0 := Lib.holds_zero0 w 178 (Lib.nDigits u) (by omega)
    have hfmt := Tryz.internal_strconv_formatBase10 w.heap.size 0 24 u (Array.replicate (Lib.nDigits u) 0) (w.alloc (.cells Lib.zeros24 178)) hH0 (by rw [Array.size_replicate]; exact Lib.lt_pow_nDigits u) hu64 (by rw [Array.size_replicate]; omega)
    rw [Array.size_replicate] at hfmt
    have HH0 := Lib.hid hH0
    have hT' : Tab10 (w.alloc (.cells Lib.zeros24 178)) := hT.below ((Below.refl _ _).alloc (Nat.le_refl _) _)
    have hnd := Tryz.internal_strconv_numDigits u hu1 hu64 _ hT'
    have hsl : ∀ W, (Instr.sliceAt 178 (.pointer (some ⟨w.heap.size, 0, none⟩)) none (some (.int .i64 (Lib.nDigits u : Int))) none).run Tryz.prog W = .ok (.slice (some ⟨w.heap.size, 0, none⟩) (Lib.nDigits u) 24) W := fun W => by
      rw [run_sliceAt_array_h W 178 ⟨w.heap.size, 0, none⟩ (by kernel_rfl) .i64 (Lib.nDigits u : Int) (by omega) (by rw [hal]; omega)]
      go_simp
    replace hfmt := Lib.hid hfmt
    clear hal
    replace hnd := Lib.hid hnd
    clear hH0
    go_enter Tryz.func85, Tryz.ntmps85
    go_wp2_with fail
    refine hnd.out.mono ?_
    rintro e w' ⟨rfl, rfl⟩
    go_wp2_with fail
    refine hfmt.out.mono ?_
    rintro e w' ⟨rfl, k, v', dk, rfl, hF⟩
    have hcv : (convert 66 9 (.slice (some ⟨w.heap.size, 0, none⟩) (Lib.nDigits u) 24)).run Tryz.prog ((putRow (fun (b : UInt8) => Value.int .u8 (b.toNat : Int)) (w.alloc (.cells Lib.zeros24 178)) w.heap.size 0 dk).drewN k) = .ok (.string ⟨(Lib.decDigits u).toArray⟩) ((putRow (fun (b : UInt8) => Value.int .u8 (b.toNat : Int)) (w.alloc (.cells Lib.zeros24 178)) w.heap.size 0 dk).drewN k) := by
      have h := run_convert_bytes_back (P := Tryz.prog) ((putRow (fun (b : UInt8) => Value.int .u8 (b.toNat : Int)) (w.alloc (.cells Lib.zeros24 178)) w.heap.size 0 dk).drewN k) 66 9 5 ⟨w.heap.size, 0, none⟩ 24 (Lib.decDigits u) (by kernel_rfl) (by kernel_rfl) (by kernel_rfl) (fun j hj => by
        rw [Lib.row_is_numeral hF j hj, Lib.add_plain, World.cell?_drewN]
        exact cell?_putRow (fun (b : UInt8) => Value.int .u8 (b.toNat : Int)) _ w.heap.size 0 _ dk HH0.out (by rw [hF.size, Array.size_replicate]) j (by rw [hF.size]; rw [Lib.decDigits_length] at hj; exact hj))
      rw [Lib.decDigits_length] at h
      exact h
    obtain ⟨os, eo⟩ := fin_zero w (.cells Lib.zeros24 178) dk k
    rw [eo] at hcv
    have eo' := Lib.hid eo
    clear eo
    rw [eo'.out]
    go_wp2
    go_ret
    exact ⟨rfl, grow_below _ (Nat.le_refl _)⟩
set_option maxHeartbeats 1000000 in
theorem formatUint_any (u : Nat) (hu64 : u < 18446744073709551616) (w : World) (hT : Tab10 w) :
    Calls Tryz.prog 53 #[.int .u64 u, .int .i64 10] w fun e w' => e = .returned (.string ⟨(Lib.decDigits u).toArray⟩) ∧ Below w.heap.size w w' := by
  go_enter Tryz.func53, Tryz.ntmps53
  go_wp2_with fail
  refine (ifu_any u hu64 w hT).mono ?_
  rintro e w' ⟨rfl, hb⟩
  go_wp2
  go_ret
  exact ⟨rfl, hb⟩
end Go.Proofs.YtdlkfnkmdlcekaaGreatDoor
