/- The laws of Scan: strings put together out of digits; a number as text. Condition: the table of powers reads as it is laid. -/
import Derived.Test.YtlpcfbilembilaaDoorScanG
import Derived.Test.YtlpcfbilembilaaDoorScanZ
import Derived.Test.YtlpcfbilembilaaDoorLawFar
namespace Go.Proofs.YtlpcfbilembilaaDoor
open Go.RowKit Go.Cal
theorem i64_low (n : Int) (k : Nat) (hk : k ≤ 62) : bits .and .i64 n ((2 ^ k - 1 : Nat) : Int) = n % ((2 ^ k : Nat) : Int) := by
  have hp : 2 ^ k ≤ 2 ^ 62 := Nat.pow_le_pow_right (by omega) hk
  have hp0 : 0 < 2 ^ k := Nat.pow_pos (by omega)
  have h127 : (BitVec.ofInt 64 ((2 ^ k - 1 : Nat) : Int)).toNat = 2 ^ k - 1 := by
    rw [BitVec.ofInt_natCast, BitVec.toNat_ofNat, Nat.mod_eq_of_lt (by omega)]
  have key : (BitVec.ofInt 64 n &&& BitVec.ofInt 64 ((2 ^ k - 1 : Nat) : Int)).toNat = (n % ((2 ^ 64 : Nat) : Int)).toNat % 2 ^ k := by
    rw [BitVec.toNat_and, BitVec.toNat_ofInt, h127, Nat.and_two_pow_sub_one_eq_mod]
  show IntKind.i64.wrap ((BitVec.ofInt 64 n &&& BitVec.ofInt 64 ((2 ^ k - 1 : Nat) : Int)).toNat : Nat) = _
  have hm : (n % ((2 ^ 64 : Nat) : Int)).toNat % 2 ^ k < 2 ^ k := Nat.mod_lt _ hp0
  have hn : 0 ≤ n % ((2 ^ 64 : Nat) : Int) := Int.emod_nonneg _ (by decide)
  have hd : ((2 ^ k : Nat) : Int) ∣ ((2 ^ 64 : Nat) : Int) := Int.natCast_dvd_natCast.2 (Nat.pow_dvd_pow 2 (by omega))
  rw [key, IntKind.wrap_i64]
  rw [← Int.emod_emod_of_dvd n hd]
  generalize n % ((2 ^ 64 : Nat) : Int) = y at hn hm
  obtain ⟨z, rfl⟩ := Int.eq_ofNat_of_zero_le hn
  simp only [Int.toNat_natCast] at hm ⊢
  rw [← Int.natCast_emod]
  omega
theorem and_15 (n : Int) : ∃ m : Nat, bits .and .i64 n 15 = (m : Int) ∧ m ≤ 15 := ⟨(n % 16).toNat, by have := i64_low n 4 (by omega); simp at this; rw [this]; omega, by omega⟩
theorem and_3 (n : Int) : ∃ m : Nat, bits .and .i64 n 3 = (m : Int) ∧ m ≤ 3 := ⟨(n % 4).toNat, by have := i64_low n 2 (by omega); simp at this; rw [this]; omega, by omega⟩
theorem strL_cut (l : List UInt8) (n : Nat) : (strL l).extract 0 n = strL (l.take n) := by
  unfold strL
  apply ByteArray.ext
  apply Array.toList_inj.1
  rw [ByteArray.data_extract, Array.toList_extract]
  simp [List.extract_eq_take_drop]
/-- Digits out of bytes. -/
def digT (l : List UInt8) (i : Nat) : List UInt8 := (l.take i).map fun x => UInt8.ofNat (48 + x.toNat % 10)
theorem digT_len (l : List UInt8) (i : Nat) : (digT l i).length ≤ i := by unfold digT; rw [List.length_map, List.length_take]; omega
theorem digT_digs (l : List UInt8) (i : Nat) : ∀ c ∈ digT l i, isDig c = true := fun c hc => by
  unfold digT at hc
  obtain ⟨x, _, rfl⟩ := List.mem_map.1 hc
  exact isDig_ofNat (by omega)
theorem digT_step (l : List UInt8) (i : Nat) (h : i < l.length) : strL (digT l i) ++ strL [UInt8.ofNat (48 + (l.getD i 0).toNat % 10)] = strL (digT l (i + 1)) := by
  rw [strL_app]
  unfold digT
  rw [take_snocB l i h, List.map_append]
  rfl
theorem zeroT_step (i : Nat) : strL (List.replicate i 48) ++ ⟨#[48]⟩ = strL (List.replicate (i + 1) 48) := by
  have := strL_app (List.replicate i 48) [48]
  rw [← List.replicate_succ'] at this
  exact this
set_option maxRecDepth 100000 in
set_option maxHeartbeats 1000000 in
/-- A number as text. -/
theorem number_any (n : Int) (hn : -100000 ≤ n ∧ n ≤ 100000) (w : World) (hT : Tab10 w) : Calls Tryd.prog 13 #[.int .i64 n] w fun e w' => e = .returned (.string (strL (numT n))) ∧ Below w.heap.size w w' := by
  obtain ⟨m, hm⟩ : ∃ m, n.natAbs = m := ⟨_, rfl⟩
  have hlen : (Lib.decDigits m).length ≤ 64 := dec_len_bound (k := 64) (by omega) (by omega)
  by_cases h0 : n < 0
  · have hm1 : -n = (m : Int) := by omega
    have hs : (⟨#[45]⟩ : ByteArray) ++ strL (Lib.decDigits m) = strL (numT n) := by
      have := strL_app [45] (Lib.decDigits m)
      unfold numT
      rw [if_pos h0, hm]
      exact this
    replace hm := Lib.hid hm
    go_enter Tryd.func13, Tryd.ntmps13
    go_wp2_with fail
    refine (of_t _ m (by omega)).mono ?_
    rintro e w1 ⟨v1, rfl, hv, hb⟩
    go_wp2_with fail
    refine (stext_t (hT.below hb) (IsT.isN hv) (by decide)).mono ?_
    rintro e w2 ⟨rfl, hb2⟩
    go_wp2
    go_ret
    exact ⟨by rw [← hs]; rfl, chain hb hb2⟩
  · have hm1 : n = (m : Int) := by omega
    have hs : strL (Lib.decDigits m) = strL (numT n) := by
      unfold numT
      rw [if_neg h0, hm]
    replace hm := Lib.hid hm
    subst hm1
    go_enter Tryd.func13, Tryd.ntmps13
    go_wp2_with fail
    refine (of_t _ m (by omega)).mono ?_
    rintro e w1 ⟨v1, rfl, hv, hb⟩
    go_wp2_with fail
    refine (stext_t (hT.below hb) (IsT.isN hv) (by decide)).mono ?_
    rintro e w2 ⟨rfl, hb2⟩
    go_wp2
    go_ret
    exact ⟨by rw [← hs]; rfl, chain hb hb2⟩
end Go.Proofs.YtlpcfbilembilaaDoor
