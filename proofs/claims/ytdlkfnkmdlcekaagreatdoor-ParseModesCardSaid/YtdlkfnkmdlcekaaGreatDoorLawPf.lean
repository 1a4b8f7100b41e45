/- The law ParseFits, walked. Conditions: the variables that values read. -/
import Derived.Test.YtdlkfnkmdlcekaaGreatDoorFo31
import Derived.Laws.IdiomStrings
namespace Go.Proofs.YtdlkfnkmdlcekaaGreatDoor
open Go.RowKit Go.Cal
theorem strL_extractP (S : List UInt8) (a b : Nat) : (strL S).extract a b = strL ((S.drop a).take (b - a)) := by
  unfold strL
  refine ByteArray.ext ?_
  rw [ByteArray.data_extract]
  refine Array.toList_inj.1 ?_
  rw [Array.toList_extract]
theorem slice_toP (S : List UInt8) (p : Nat) (hp : p ≤ S.length) (w : World) : (Instr.slice 9 (.string (strL S)) none (some (.int .i64 p)) none).run Tryz.prog w = .ok (.string (strL (S.take p))) w := by
  rw [run_slice_string_h _ _ _ sunder_str .i64 p (by omega) (by rw [strL_size]; omega), strL_extractP, List.drop_zero, Int.toNat_natCast, Nat.sub_zero]
theorem strL_back (s : ByteArray) : s = strL s.data.toList := by unfold strL; rw [Array.toArray_toList]
set_option maxRecDepth 100000 in
set_option maxHeartbeats 2000000 in
theorem parseFits_any (id mode : Int) (s : ByteArray) (w : World) (hW : VaW w) (hs : s.size ≤ maxLen) : Calls Tryz.prog 7 #[.int .i64 id, .int .i64 mode, .string s] w fun e w' => e = .returned (.bool true) ∧ Below w.heap.size w w' := by
  obtain ⟨l, hl⟩ : ∃ l, s.data.toList = l := ⟨_, rfl⟩
  obtain rfl : s = strL l := by rw [← hl]; exact strL_back s
  clear hl
  obtain ⟨z, hz⟩ : ∃ z, l.length = z := ⟨_, rfl⟩
  have hsz : (strL l).size = z := by rw [strL_size, hz]
  rw [hsz] at hs
  obtain ⟨m, hm⟩ : ∃ m : Nat, min (z : Int) 300 = m := ⟨min z 300, by omega⟩
  have hsl := fun w => slice_toP l m (by omega) w
  obtain ⟨y, hy⟩ : ∃ y, (l.take m).length = y := ⟨_, rfl⟩
  have hyl : y ≤ 300 := by rw [← hy, List.length_take]; omega
  have hysz : (strL (l.take m)).size = y := by rw [strL_size, hy]
  have hpt := Lib.hid fun w hW => ptext_any id mode (l.take m) (by omega) w hW
  have hfc := par_fits' id mode (l.take m)
  rw [hy] at hfc
  generalize parV id mode (l.take m) = pr at hpt hfc
  obtain ⟨p, a, er⟩ := pr
  simp only at hpt hfc
  replace hz := Lib.hid hz
  replace hy := Lib.hid hy
  have hsh := Lib.hid fun w hW => pshown_any w hW
  rcases hfc with ⟨e0, rfl, a0, a1, hca⟩ | ⟨rfl, rfl, hf, hc, hp0⟩
  · have er' : (er != 0) = true := by simp [e0]
    have hca' : a = 0 ∨ ((a == 0) = false ∧ er = 2) ∨ (er = 5 ∧ a = 1) := by
      by_cases ha : a = 0
      · exact .inl ha
      · rcases hca with h | h | h
        · exact absurd h ha
        · exact .inr (.inl ⟨by simp [ha], h⟩)
        · exact .inr (.inr h)
    clear hca
    rcases hca' with rfl | ⟨ha, rfl⟩ | ⟨rfl, rfl⟩
    all_goals
      go_enter Tryz.func7, Tryz.ntmps7
      go_wp2_with fail
      refine (hsh.out _ hW).mono ?_
      rintro e w1 ⟨rfl, hb1⟩
      go_wp2_with fail
      refine (hpt.out _ (hW.below hb1)).mono ?_
      rintro e w2 ⟨rfl, hb2⟩
      go_wp2
      go_ret
      exact ⟨by first | rfl | simp, hb1.trans (hb2.mono hb1.size)⟩
  · have hp1 : p < 18446744073709551616 := by
      obtain ⟨h1, h2, h3⟩ := fitsV_zero hf
      obtain ⟨w1, -⟩ := fo_wide h1 h2
      have : (2 : Int) ^ (fW id).toNat ≤ 2 ^ 64 := by
        have h5 : 2 ^ (fW id).toNat ≤ 2 ^ 64 := Nat.pow_le_pow_right (by decide) w1
        exact_mod_cast h5
      omega
    have hcn := fun w (hW : VaW w) => fo_canon id p w hW.frm hp0 hp1
    rw [hf, hc] at hcn
    replace hcn := Lib.hid hcn
    clear hf hc
    go_enter Tryz.func7, Tryz.ntmps7
    go_wp2_with fail
    refine (hsh.out _ hW).mono ?_
    rintro e w1 ⟨rfl, hb1⟩
    go_wp2_with fail
    refine (hpt.out _ (hW.below hb1)).mono ?_
    rintro e w2 ⟨rfl, hb2⟩
    have hB := hb1.trans (hb2.mono hb1.size)
    go_wp2_with fail
    refine (hcn.out _ (hW.below hB)).mono ?_
    rintro e w3 ⟨rfl, hb3⟩
    go_wp2
    go_ret
    exact ⟨rfl, hB.trans (hb3.mono hB.size)⟩
end Go.Proofs.YtdlkfnkmdlcekaaGreatDoor
