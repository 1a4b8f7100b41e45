/- What the statements of Parse show in any case. Conditions: the variables that values read. -/
/- The law ParseFits, walked. Conditions: the variables that values read. -/
/- The law ParseTells, walked. Conditions: the variables that values read. -/
import Derived.Test.YtncfbleeidjflaaGreatDoorSu34
import Derived.Test.YtncfbleeidjflaaGreatDoorSu33
import Derived.Laws.IdiomStrings
import Derived.Test.YtncfbleeidjflaaGreatDoorSu36
namespace Go.Proofs.YtncfbleeidjflaaGreatDoor
open Go.RowKit Go.Cal
theorem ptext_is (id mode : Int) (l : List UInt8) (s : ByteArray) (p a e : Int) (hs : strL l = s) (hl : l.length ≤ 1000) (hv : parV id mode l = (p, a, e)) {w : World} (hW : VaW w) :
    Calls Tryz.prog 13 #[.int .i64 id, .int .i64 mode, .string s] w fun x w' => x = .returned (.tuple #[.int .u64 p, .int .i64 a, .int .i64 e]) ∧ Below w.heap.size w w' := by
  subst hs
  have := ptext_any id mode l (by omega) w hW
  rw [hv] at this
  exact this
theorem pof_is (id : Int) (l : List UInt8) (s : ByteArray) (p : Int) (hs : strL l = s) (hl : l.length ≤ 1000) (hv : parV id 2 l = (p, 0, 0)) {w : World} (hW : VaW w) :
    Calls Tryz.prog 30 #[.int .i64 id, .string s] w fun x w' => x = .returned (.int .u64 p) ∧ Below w.heap.size w w' := by
  have hp := Lib.hid (ptext_is id 2 l s p 0 0 hs hl hv hW)
  clear hs hv
  go_enter Tryz.func30, Tryz.ntmps30
  go_wp2_with fail
  refine hp.out.mono ?_
  rintro e w1 ⟨rfl, hb⟩
  go_wp2
  go_ret
  exact ⟨rfl, hb⟩
theorem pv1 : parV 7 1 [45, 105, 110, 102] = (0, 1, 5) := by decide +kernel
theorem pv2 : parV 1 2 [49, 46, 53, 120] = (0, 3, 2) := by decide +kernel
theorem pv3 : parV 99 2 [120] = (0, 0, 3) := by decide +kernel
theorem pv4 : parV 1 3 [120] = (0, 0, 1) := by decide +kernel
theorem pv5 : parV 1 2 [45, 78, 97, 82] = (0, 1, 5) := by decide +kernel
theorem pv6 : parV 5 2 [52, 54, 52] = (126, 0, 0) := by decide +kernel
theorem pv7 : parV 5 2 [52, 54, 52, 46, 49] = (127, 0, 0) := by decide +kernel
theorem pv8 : parV 1 2 [49, 101, 45, 57, 57] = (1, 0, 0) := by decide +kernel
theorem pv9 : parV 1 2 [45, 49, 101, 57, 57, 57, 57] = (129, 0, 0) := by decide +kernel
theorem pv10 : parV 1 2 [78, 97, 82] = (128, 0, 0) := by decide +kernel
theorem pv11 : parV 6 2 [45, 105, 110, 102] = (252, 0, 0) := by decide +kernel
theorem pv12 : parV 6 2 [45, 110, 97, 110] = (126, 0, 0) := by decide +kernel
theorem pv13 : parV 14 2 [48, 46, 49] = (4591870180066957722, 0, 0) := by decide +kernel
theorem pv14 : parV 13 2 [45, 48] = (2147483648, 0, 0) := by decide +kernel
theorem pv15 : parV 10 2 [45, 50] = (128, 0, 0) := by decide +kernel
set_option maxRecDepth 100000 in
set_option maxHeartbeats 2000000 in
theorem pshown_any (w : World) (hW : VaW w) : Calls Tryz.prog 12 #[] w fun e w' => e = .returned (.bool true) ∧ Below w.heap.size w w' := by
  have h0 := LiveP.start w
  go_enter Tryz.func12, Tryz.ntmps12
  go_wp2_with fail
  refine (ptext_is 7 1 [45, 105, 110, 102] _ _ _ _ rfl (by decide) pv1 (hW.below h0.below)).mono ?_
  rintro e w1 ⟨rfl, hb1⟩
  have h1 := h0.go hb1
  go_wp2_with fail
  refine (ptext_is 1 2 [49, 46, 53, 120] _ _ _ _ rfl (by decide) pv2 (hW.below h1.below)).mono ?_
  rintro e w2 ⟨rfl, hb2⟩
  have h2 := h1.go hb2
  go_wp2_with fail
  refine (ptext_is 99 2 [120] _ _ _ _ rfl (by decide) pv3 (hW.below h2.below)).mono ?_
  rintro e w3 ⟨rfl, hb3⟩
  have h3 := h2.go hb3
  go_wp2_with fail
  refine (ptext_is 1 3 [120] _ _ _ _ rfl (by decide) pv4 (hW.below h3.below)).mono ?_
  rintro e w4 ⟨rfl, hb4⟩
  have h4 := h3.go hb4
  go_wp2_with fail
  refine (ptext_is 1 2 [45, 78, 97, 82] _ _ _ _ rfl (by decide) pv5 (hW.below h4.below)).mono ?_
  rintro e w5 ⟨rfl, hb5⟩
  have h5 := h4.go hb5
  go_wp2_with fail
  refine (pof_is 5 [52, 54, 52] _ _ rfl (by decide) pv6 (hW.below h5.below)).mono ?_
  rintro e w6 ⟨rfl, hb6⟩
  have h6 := h5.go hb6
  go_wp2_with fail
  refine (pof_is 5 [52, 54, 52, 46, 49] _ _ rfl (by decide) pv7 (hW.below h6.below)).mono ?_
  rintro e w7 ⟨rfl, hb7⟩
  have h7 := h6.go hb7
  go_wp2_with fail
  refine (pof_is 1 [49, 101, 45, 57, 57] _ _ rfl (by decide) pv8 (hW.below h7.below)).mono ?_
  rintro e w8 ⟨rfl, hb8⟩
  have h8 := h7.go hb8
  go_wp2_with fail
  refine (pof_is 1 [45, 49, 101, 57, 57, 57, 57] _ _ rfl (by decide) pv9 (hW.below h8.below)).mono ?_
  rintro e w9 ⟨rfl, hb9⟩
  have h9 := h8.go hb9
  go_wp2_with fail
  refine (pof_is 1 [78, 97, 82] _ _ rfl (by decide) pv10 (hW.below h9.below)).mono ?_
  rintro e w10 ⟨rfl, hb10⟩
  have h10 := h9.go hb10
  go_wp2_with fail
  refine (pof_is 6 [45, 105, 110, 102] _ _ rfl (by decide) pv11 (hW.below h10.below)).mono ?_
  rintro e w11 ⟨rfl, hb11⟩
  have h11 := h10.go hb11
  go_wp2_with fail
  refine (pof_is 6 [45, 110, 97, 110] _ _ rfl (by decide) pv12 (hW.below h11.below)).mono ?_
  rintro e w12 ⟨rfl, hb12⟩
  have h12 := h11.go hb12
  go_wp2_with fail
  refine (pof_is 14 [48, 46, 49] _ _ rfl (by decide) pv13 (hW.below h12.below)).mono ?_
  rintro e w13 ⟨rfl, hb13⟩
  have h13 := h12.go hb13
  go_wp2_with fail
  refine (pof_is 13 [45, 48] _ _ rfl (by decide) pv14 (hW.below h13.below)).mono ?_
  rintro e w14 ⟨rfl, hb14⟩
  have h14 := h13.go hb14
  go_wp2_with fail
  refine (pof_is 10 [45, 50] _ _ rfl (by decide) pv15 (hW.below h14.below)).mono ?_
  rintro e w15 ⟨rfl, hb15⟩
  have h15 := h14.go hb15
  go_wp2_with fail
  go_ret
  exact ⟨rfl, h15.below⟩
end Go.Proofs.YtncfbleeidjflaaGreatDoor
namespace Go.Proofs.YtncfbleeidjflaaGreatDoor
open Go.RowKit Go.Cal
theorem strL_extractP (S : List UInt8) (a b : Nat) : (strL S).extract a b = strL ((S.drop a).take (b - a)) := by
  unfold strL
  refine ByteArray.ext ?_
  rw [ByteArray.data_extract]
  refine Array.toList_inj.1 ?_
  rw [Array.toList_extract]
theorem slice_toP (S : List UInt8) (p : Nat) (hp : p ≤ S.length) (w : World) : (Instr.slice 9 (.string (strL S)) none (some (.int .i64 p)) none).run Tryz.prog w = .ok (.string (strL (S.take p))) w := by
  rw [run_slice_string_h _ _ _ sunder_str .i64 p (by omega) (by rw [strL_size]; omega), strL_extractP, List.drop_zero, Int.toNat_natCast, Nat.sub_zero]
theorem strL_back (s : ByteArray) : s = strL s.data.toList := by unfold strL; rw [Array.toArray_toList]
end Go.Proofs.YtncfbleeidjflaaGreatDoor
namespace Go.Proofs.YtncfbleeidjflaaGreatDoor
open Go.RowKit Go.Cal
set_option maxRecDepth 100000 in
set_option maxHeartbeats 2000000 in
theorem parseTells_any (id mode : Int) (s : ByteArray) (w : World) (hW : VaW w) (hs : s.size ≤ maxLen) : Calls Tryz.prog 5 #[.int .i64 id, .int .i64 mode, .string s] w fun e w' => e = .returned (.bool true) ∧ Below w.heap.size w w' := by
  obtain ⟨l, hl⟩ : ∃ l, s.data.toList = l := ⟨_, rfl⟩
  obtain rfl : s = strL l := by rw [← hl]; exact strL_back s
  clear hl
  obtain ⟨z, hz⟩ : ∃ z, l.length = z := ⟨_, rfl⟩
  have hsz : (strL l).size = z := by rw [strL_size, hz]
  rw [hsz] at hs
  obtain ⟨m, hm⟩ : ∃ m : Nat, min (z : Int) 300 = m := ⟨min z 300, by omega⟩
  have hsl := fun w => slice_toP l m (by omega) w
  obtain ⟨y, hy⟩ : ∃ y, (l.take m).length = y := ⟨_, rfl⟩
  have hyl : y ≤ 300 := by rw [← hy, List.length_take]; omega
  have hysz : (strL (l.take m)).size = y := by rw [strL_size, hy]
  have hpt := Lib.hid fun w hW => ptext_any id mode (l.take m) (by omega) w hW
  have hrp := Lib.hid fun w => rparse_any id mode (l.take m) (by omega) w
  generalize parV id mode (l.take m) = pr at hpt hrp
  obtain ⟨p, a, er⟩ := pr
  simp only at hpt hrp
  replace hz := Lib.hid hz
  replace hy := Lib.hid hy
  have hsh := Lib.hid fun w hW => pshown_any w hW
  go_enter Tryz.func5, Tryz.ntmps5
  go_wp2_with fail
  refine (hsh.out _ hW).mono ?_
  rintro e w1 ⟨rfl, hb1⟩
  go_wp2_with fail
  refine (hpt.out _ (hW.below hb1)).mono ?_
  rintro e w2 ⟨rfl, hb2⟩
  have hB := hb1.trans (hb2.mono hb1.size)
  go_wp2_with fail
  refine (hrp.out _).mono ?_
  rintro e w3 ⟨rfl, hb3⟩
  have hB3 := hB.trans (hb3.mono hB.size)
  go_wp2
  go_ret
  exact ⟨by first | rfl | simp, hB3⟩
end Go.Proofs.YtncfbleeidjflaaGreatDoor
