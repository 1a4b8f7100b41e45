/- The law NatRing, walked. Condition: the table of powers reads as it is laid. -/
import Derived.Test.YtdclphnakdmgjaaDoorNatT
namespace Go.Proofs.YtdclphnakdmgjaaDoor
open Go.RowKit Go.Cal
set_option maxRecDepth 100000 in
set_option maxHeartbeats 8000000 in
theorem natRing_any (v1 v2 v3 : Value) (w : World) (hT : Tab10 w) (ha1 : ArgN w v1) (ha2 : ArgN w v2) (ha3 : ArgN w v3) :
    Calls Tryd.prog 3 #[v1, v2, v3] w fun e w' => e = .returned (.bool true) ∧ Below w.heap.size w w' := by
  go_enter Tryd.func3, Tryd.ntmps3
  have hL0 := Live.start w
  go_wp2_with fail
  refine ((shown_any w hT)).mono ?_
  rintro e w1 ⟨rfl, hb1⟩
  replace hL0 := hL0.go hb1
  clear hb1
  go_wp2_with fail
  refine (few_a 20 hL0 (v := v1) ha1 (by decide) (by decide)).mono ?_
  rintro e w2 ⟨u2, X, rfl, hL2⟩
  clear hL0
  go_wp2_with fail
  refine (few_a 20 hL2 (v := v2) ha2 (by decide) (by decide)).mono ?_
  rintro e w3 ⟨u3, Y, rfl, hL3⟩
  clear hL2
  go_wp2_with fail
  refine (few_a 20 hL3 (v := v3) ha3 (by decide) (by decide)).mono ?_
  rintro e w4 ⟨u4, Z, rfl, hL4⟩
  clear hL3
  go_wp2_with fail
  refine (add_l hL4 (v1 := u2) (v2 := u3) (by repeat (first | exact List.mem_cons_self | apply List.mem_cons_of_mem)) (by repeat (first | exact List.mem_cons_self | apply List.mem_cons_of_mem)) (by decide) (by decide)).mono ?_
  rintro e w5 ⟨u5, rfl, hL5⟩
  clear hL4
  go_wp2_with fail
  refine (add_l hL5 (v1 := u3) (v2 := u2) (by repeat (first | exact List.mem_cons_self | apply List.mem_cons_of_mem)) (by repeat (first | exact List.mem_cons_self | apply List.mem_cons_of_mem)) (by decide) (by decide)).mono ?_
  rintro e w6 ⟨u6, rfl, hL6⟩
  clear hL5
  go_wp2_with fail
  refine (cmp_same hL6 (by repeat (first | exact List.mem_cons_self | apply List.mem_cons_of_mem)) (by repeat (first | exact List.mem_cons_self | apply List.mem_cons_of_mem)) (by decide) (by decide) (Nat.add_comm _ _)).mono ?_
  rintro e w7 ⟨rfl, hL7⟩
  clear hL6
  go_wp2_with fail
  refine (mul_l hL7 (v1 := u2) (v2 := u3) (by repeat (first | exact List.mem_cons_self | apply List.mem_cons_of_mem)) (by repeat (first | exact List.mem_cons_self | apply List.mem_cons_of_mem)) (by decide) (by decide)).mono ?_
  rintro e w8 ⟨u8, rfl, hL8⟩
  clear hL7
  go_wp2_with fail
  refine (mul_l hL8 (v1 := u3) (v2 := u2) (by repeat (first | exact List.mem_cons_self | apply List.mem_cons_of_mem)) (by repeat (first | exact List.mem_cons_self | apply List.mem_cons_of_mem)) (by decide) (by decide)).mono ?_
  rintro e w9 ⟨u9, rfl, hL9⟩
  clear hL8
  go_wp2_with fail
  refine (cmp_same hL9 (by repeat (first | exact List.mem_cons_self | apply List.mem_cons_of_mem)) (by repeat (first | exact List.mem_cons_self | apply List.mem_cons_of_mem)) (by decide) (by decide) (Nat.mul_comm _ _)).mono ?_
  rintro e w10 ⟨rfl, hL10⟩
  clear hL9
  go_wp2_with fail
  refine (add_l hL10 (v1 := u5) (v2 := u4) (by repeat (first | exact List.mem_cons_self | apply List.mem_cons_of_mem)) (by repeat (first | exact List.mem_cons_self | apply List.mem_cons_of_mem)) (by decide) (by decide)).mono ?_
  rintro e w11 ⟨u11, rfl, hL11⟩
  clear hL10
  go_wp2_with fail
  refine (add_l hL11 (v1 := u3) (v2 := u4) (by repeat (first | exact List.mem_cons_self | apply List.mem_cons_of_mem)) (by repeat (first | exact List.mem_cons_self | apply List.mem_cons_of_mem)) (by decide) (by decide)).mono ?_
  rintro e w12 ⟨u12, rfl, hL12⟩
  clear hL11
  go_wp2_with fail
  refine (add_l hL12 (v1 := u2) (v2 := u12) (by repeat (first | exact List.mem_cons_self | apply List.mem_cons_of_mem)) (by repeat (first | exact List.mem_cons_self | apply List.mem_cons_of_mem)) (by decide) (by decide)).mono ?_
  rintro e w13 ⟨u13, rfl, hL13⟩
  clear hL12
  go_wp2_with fail
  refine (cmp_same hL13 (by repeat (first | exact List.mem_cons_self | apply List.mem_cons_of_mem)) (by repeat (first | exact List.mem_cons_self | apply List.mem_cons_of_mem)) (by decide) (by decide) (Nat.add_assoc _ _ _)).mono ?_
  rintro e w14 ⟨rfl, hL14⟩
  clear hL13
  go_wp2_with fail
  refine (mul_l hL14 (v1 := u2) (v2 := u3) (by repeat (first | exact List.mem_cons_self | apply List.mem_cons_of_mem)) (by repeat (first | exact List.mem_cons_self | apply List.mem_cons_of_mem)) (by decide) (by decide)).mono ?_
  rintro e w15 ⟨u15, rfl, hL15⟩
  clear hL14
  go_wp2_with fail
  refine (mul_l hL15 (v1 := u15) (v2 := u4) (by repeat (first | exact List.mem_cons_self | apply List.mem_cons_of_mem)) (by repeat (first | exact List.mem_cons_self | apply List.mem_cons_of_mem)) (by decide) (by decide)).mono ?_
  rintro e w16 ⟨u16, rfl, hL16⟩
  clear hL15
  go_wp2_with fail
  refine (mul_l hL16 (v1 := u3) (v2 := u4) (by repeat (first | exact List.mem_cons_self | apply List.mem_cons_of_mem)) (by repeat (first | exact List.mem_cons_self | apply List.mem_cons_of_mem)) (by decide) (by decide)).mono ?_
  rintro e w17 ⟨u17, rfl, hL17⟩
  clear hL16
  go_wp2_with fail
  refine (mul_l hL17 (v1 := u2) (v2 := u17) (by repeat (first | exact List.mem_cons_self | apply List.mem_cons_of_mem)) (by repeat (first | exact List.mem_cons_self | apply List.mem_cons_of_mem)) (by decide) (by decide)).mono ?_
  rintro e w18 ⟨u18, rfl, hL18⟩
  clear hL17
  go_wp2_with fail
  refine (cmp_same hL18 (by repeat (first | exact List.mem_cons_self | apply List.mem_cons_of_mem)) (by repeat (first | exact List.mem_cons_self | apply List.mem_cons_of_mem)) (by decide) (by decide) (Nat.mul_assoc _ _ _)).mono ?_
  rintro e w19 ⟨rfl, hL19⟩
  clear hL18
  go_wp2_with fail
  refine (sub_l hL19 (v1 := u5) (v2 := u3) (by repeat (first | exact List.mem_cons_self | apply List.mem_cons_of_mem)) (by repeat (first | exact List.mem_cons_self | apply List.mem_cons_of_mem)) (by decide) (by decide) (Nat.le_add_left _ _)).mono ?_
  rintro e w20 ⟨u20, rfl, hL20⟩
  clear hL19
  go_wp2_with fail
  refine (cmp_same hL20 (by repeat (first | exact List.mem_cons_self | apply List.mem_cons_of_mem)) (by repeat (first | exact List.mem_cons_self | apply List.mem_cons_of_mem)) (by decide) (by decide) (Nat.add_sub_cancel _ _)).mono ?_
  rintro e w21 ⟨rfl, hL21⟩
  clear hL20
  go_wp2_with fail
  refine (mul_l hL21 (v1 := u5) (v2 := u4) (by repeat (first | exact List.mem_cons_self | apply List.mem_cons_of_mem)) (by repeat (first | exact List.mem_cons_self | apply List.mem_cons_of_mem)) (by decide) (by decide)).mono ?_
  rintro e w22 ⟨u22, rfl, hL22⟩
  clear hL21
  go_wp2_with fail
  refine (mul_l hL22 (v1 := u2) (v2 := u4) (by repeat (first | exact List.mem_cons_self | apply List.mem_cons_of_mem)) (by repeat (first | exact List.mem_cons_self | apply List.mem_cons_of_mem)) (by decide) (by decide)).mono ?_
  rintro e w23 ⟨u23, rfl, hL23⟩
  clear hL22
  go_wp2_with fail
  refine (mul_l hL23 (v1 := u3) (v2 := u4) (by repeat (first | exact List.mem_cons_self | apply List.mem_cons_of_mem)) (by repeat (first | exact List.mem_cons_self | apply List.mem_cons_of_mem)) (by decide) (by decide)).mono ?_
  rintro e w24 ⟨u24, rfl, hL24⟩
  clear hL23
  go_wp2_with fail
  refine (add_l hL24 (v1 := u23) (v2 := u24) (by repeat (first | exact List.mem_cons_self | apply List.mem_cons_of_mem)) (by repeat (first | exact List.mem_cons_self | apply List.mem_cons_of_mem)) (by decide) (by decide)).mono ?_
  rintro e w25 ⟨u25, rfl, hL25⟩
  clear hL24
  go_wp2_with fail
  refine (cmp_same hL25 (by repeat (first | exact List.mem_cons_self | apply List.mem_cons_of_mem)) (by repeat (first | exact List.mem_cons_self | apply List.mem_cons_of_mem)) (by decide) (by decide) (Nat.add_mul _ _ _)).mono ?_
  rintro e w26 ⟨rfl, hL26⟩
  clear hL25
  go_wp2
  go_ret
  exact ⟨rfl, hL26.below⟩
end Go.Proofs.YtdclphnakdmgjaaDoor
