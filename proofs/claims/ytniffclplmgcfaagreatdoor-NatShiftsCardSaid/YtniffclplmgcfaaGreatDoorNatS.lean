/- What must be in any case: 'shown' tells true. Condition: the table of powers reads as it is laid. -/
import Derived.Test.YtniffclplmgcfaaGreatDoorNatV
namespace Go.Proofs.YtniffclplmgcfaaGreatDoor
open Go.RowKit Go.Cal
set_option maxRecDepth 100000 in
set_option maxHeartbeats 8000000 in
theorem shown_any (w : World) (hT : Tab10 w) : Calls Tryz.prog 7 #[] w fun e w' => e = .returned (.bool true) ∧ Below w.heap.size w w' := by
  have hL0 := Live.start w
  have hA := hL0.lit [0, 1] #[.int .u64 0, .int .u64 1] 2 18446744073709551616 rfl (by decide) rfl (by decide)
  go_enter Tryz.func7, Tryz.ntmps7
  go_wp2_with fail
  refine (norm_l hA (by repeat (first | exact List.mem_cons_self | apply List.mem_cons_of_mem)) (by decide)).mono ?_
  rintro e w1 ⟨v1, rfl, hL1⟩
  clear hL0 hA
  have hA := hL1.lit [7, 3] #[.int .u64 7, .int .u64 3] 2 55340232221128654855 rfl (by decide) rfl (by decide)
  go_wp2_with fail
  refine (norm_l hA (by repeat (first | exact List.mem_cons_self | apply List.mem_cons_of_mem)) (by decide)).mono ?_
  rintro e w2 ⟨v2, rfl, hL2⟩
  clear hL1 hA
  go_wp2_with fail
  refine (of_l 10 (by decide) hL2).mono ?_
  rintro e w3 ⟨v3, rfl, hL3⟩
  clear hL2
  go_wp2_with fail
  refine (div_l hL3 (by repeat (first | exact List.mem_cons_self | apply List.mem_cons_of_mem)) (by repeat (first | exact List.mem_cons_self | apply List.mem_cons_of_mem)) (by decide) (by decide) (by decide)).mono ?_
  rintro e w4 ⟨v4, v4', rfl, hL4⟩
  clear hL3
  have hA := hL4.lit [0, 0] #[.int .u64 0, .int .u64 0] 2 0 rfl (by decide) rfl (by decide)
  go_wp2_with fail
  refine (norm_l hA (by repeat (first | exact List.mem_cons_self | apply List.mem_cons_of_mem)) (by decide)).mono ?_
  rintro e w5 ⟨v5, rfl, hL5⟩
  clear hL4 hA
  go_wp2_with fail
  refine (div_none hL5 (by repeat (first | exact List.mem_cons_self | apply List.mem_cons_of_mem)) (by repeat (first | exact List.mem_cons_self | apply List.mem_cons_of_mem)) (by decide) (by decide)).mono ?_
  rintro e w6 ⟨rfl, hL6⟩
  clear hL5
  go_wp2_with fail
  refine (of_l 1 (by decide) hL6).mono ?_
  rintro e w7 ⟨v7, rfl, hL7⟩
  clear hL6
  go_wp2_with fail
  refine (sub_less hL7 (by repeat (first | exact List.mem_cons_self | apply List.mem_cons_of_mem)) (by repeat (first | exact List.mem_cons_self | apply List.mem_cons_of_mem)) (by decide) (by decide) (by decide)).mono ?_
  rintro e w8 ⟨rfl, hL8⟩
  clear hL7
  go_wp2_with fail
  refine (parse_is [49, 56, 52, 52, 54, 55, 52, 52, 48, 55, 51, 55, 48, 57, 53, 53, 49, 54, 49, 54] 20 18446744073709551616 (by decide) (by decide) (by decide) hL8).mono ?_
  rintro e w9 ⟨v9, rfl, hL9⟩
  clear hL8
  go_wp2_with fail
  refine (parse_isnt [48, 49] (by decide) (by decide) hL9).mono ?_
  rintro e w10 ⟨rfl, hL10⟩
  clear hL9
  go_wp2_with fail
  refine (word_is 0 false hL10 (by repeat (first | exact List.mem_cons_self | apply List.mem_cons_of_mem)) (by decide) (by decide) (by decide)).mono ?_
  rintro e w' ⟨rfl, rfl⟩
  go_wp2_with fail
  refine (text_is [49, 56, 52, 52, 54, 55, 52, 52, 48, 55, 51, 55, 48, 57, 53, 53, 49, 54, 49, 54] hT hL10 (by repeat (first | exact List.mem_cons_self | apply List.mem_cons_of_mem)) (by decide) (dec_is (by decide) (by decide) (by decide) (by decide))).mono ?_
  rintro e w11 ⟨rfl, hL11⟩
  clear hL10
  have hA := hL11.lit [5, 0] #[.int .u64 5, .int .u64 0] 2 5 rfl (by decide) rfl (by decide)
  go_wp2_with fail
  refine (norm_l hA (by repeat (first | exact List.mem_cons_self | apply List.mem_cons_of_mem)) (by decide)).mono ?_
  rintro e w12 ⟨v12, rfl, hL12⟩
  clear hL11 hA
  go_wp2_with fail
  refine (text_is [53] hT hL12 (by repeat (first | exact List.mem_cons_self | apply List.mem_cons_of_mem)) (by decide) (dec_is (by decide) (by decide) (by decide) (by decide))).mono ?_
  rintro e w13 ⟨rfl, hL13⟩
  clear hL12
  have hL14 := hL13.nil
  clear hL13
  go_wp2_with fail
  refine (text_is [48] hT hL14 (by repeat (first | exact List.mem_cons_self | apply List.mem_cons_of_mem)) (by decide) (dec_is (by decide) (by decide) (by decide) (by decide))).mono ?_
  rintro e w15 ⟨rfl, hL15⟩
  clear hL14
  go_wp2_with fail
  refine (of_zero hL15).mono ?_
  rintro e w16 ⟨A16, c16, rfl, hL16⟩
  clear hL15
  go_wp2_with fail
  refine (text_is [53, 53, 51, 52, 48, 50, 51, 50, 50, 50, 49, 49, 50, 56, 54, 53, 52, 56, 53] hT hL16 (by repeat (first | exact List.mem_cons_self | apply List.mem_cons_of_mem)) (by decide) (dec_is (by decide) (by decide) (by decide) (by decide))).mono ?_
  rintro e w17 ⟨rfl, hL17⟩
  clear hL16
  go_wp2_with fail
  refine (text_is [53] hT hL17 (by repeat (first | exact List.mem_cons_self | apply List.mem_cons_of_mem)) (by decide) (dec_is (by decide) (by decide) (by decide) (by decide))).mono ?_
  rintro e w18 ⟨rfl, hL18⟩
  clear hL17
  go_wp2_with fail
  refine (cmp_l hL18 (by repeat (first | exact List.mem_cons_self | apply List.mem_cons_of_mem)) (by repeat (first | exact List.mem_cons_self | apply List.mem_cons_of_mem)) (by decide) (by decide)).mono ?_
  rintro e w19 ⟨rfl, hL19⟩
  clear hL18
  rw [show cmpV ((18446744073709551616 : Nat) : Int) ((18446744073709551616 : Nat) : Int) = 0 by decide]
  go_wp2_with fail
  refine (bits_l hL19 (by repeat (first | exact List.mem_cons_self | apply List.mem_cons_of_mem)) (by decide)).mono ?_
  rintro e w' ⟨rfl, rfl⟩
  rw [blen_of (N := 18446744073709551616) (k := 64) (by decide) (by decide)]
  go_wp2_with fail
  refine (bit_l 64 (by decide) hL19 (by repeat (first | exact List.mem_cons_self | apply List.mem_cons_of_mem))).mono ?_
  rintro e w' ⟨rfl, rfl⟩
  rw [show Nat.testBit 18446744073709551616 64 = true by decide]
  go_wp2_with fail
  refine (bit_less (-1) (by decide) hL19 (by repeat (first | exact List.mem_cons_self | apply List.mem_cons_of_mem))).mono ?_
  rintro e w' ⟨rfl, rfl⟩
  go_wp2_with fail
  refine (even_l hL19 (by repeat (first | exact List.mem_cons_self | apply List.mem_cons_of_mem))).mono ?_
  rintro e w' ⟨rfl, rfl⟩
  rw [show (!Nat.testBit 18446744073709551616 0) = true by decide]
  go_wp2_with fail
  refine (pow_is 10 20 20 21 100000000000000000000 (by decide) (by decide) (by decide) (by decide) hL19).mono ?_
  rintro e w20 ⟨v20, rfl, hL20⟩
  clear hL19
  go_wp2_with fail
  refine (text_is [49, 48, 48, 48, 48, 48, 48, 48, 48, 48, 48, 48, 48, 48, 48, 48, 48, 48, 48, 48, 48] hT hL20 (by repeat (first | exact List.mem_cons_self | apply List.mem_cons_of_mem)) (by decide) (dec_is (by decide) (by decide) (by decide) (by decide))).mono ?_
  rintro e w21 ⟨rfl, hL21⟩
  clear hL20
  go_wp2
  go_ret
  exact ⟨rfl, hL21.below⟩
end Go.Proofs.YtniffclplmgcfaaGreatDoor
