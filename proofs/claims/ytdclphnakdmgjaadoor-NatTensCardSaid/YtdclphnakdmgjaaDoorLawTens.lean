/- The law NatTens, walked. Condition: the table of powers reads as it is laid. -/
import Derived.Test.YtdclphnakdmgjaaDoorLawBits
import Derived.Deep.RegionWith
namespace Go.Proofs.YtdclphnakdmgjaaDoor
open Go.RowKit Go.Cal
theorem alloc_size (w : World) (o : Obj) : (w.alloc o).heap.size = w.heap.size + 1 := by simp
def dch (x : Nat) : UInt8 := UInt8.ofNat x
theorem convert_one (W : World) (g x : Nat) (hx : x < 256) (hc : W.cell? ⟨g, 0, none⟩ = some (.int .u8 x)) : (convert 42 9 (.slice (some ⟨g, 0, none⟩) 1 1)).run Tryd.prog W = .ok (.string ⟨[dch x].toArray⟩) W :=
  run_convert_bytes_back (P := Tryd.prog) W 42 9 5 ⟨g, 0, none⟩ 1 [UInt8.ofNat x] (by kernel_rfl) (by kernel_rfl) (by kernel_rfl) (fun j hj => by
    have : j = 0 := by simpa using hj
    subst this
    rw [Lib.add_plain]
    show W.cell? ⟨g, 0, none⟩ = some (.int .u8 (((UInt8.ofNat x).toNat : Nat) : Int))
    rw [hc, UInt8.toNat_ofNat', Nat.mod_eq_of_lt hx])
theorem text_b {B w : World} {l : List (Value × Nat × Nat)} {v1 : Value} {k1 X : Nat} (hT : Tab10 B) (h : Live B w l) (m1 : (v1, k1, X) ∈ l) (b1 : k1 ≤ 1048576) :
    Calls Tryd.prog 20 #[v1] w fun e w' => e = .returned (.string ⟨(Lib.decDigits X).toArray⟩) ∧ Below w.heap.size w w' := by
  obtain ⟨A1, c1, z1, rfl, r1, hc1, hl1, d1, rfl⟩ := h.get m1
  exact text_any c1 w r1 hc1 (by omega) d1 (h.tab hT)
theorem dec_words {X k : Nat} (h : X < 18446744073709551616 ^ k) (hk : 1 ≤ k) : (Lib.decDigits X).length ≤ 64 * k := dec_len_bound (by rw [Nat.pow_mul]; exact h) (by omega)
set_option maxRecDepth 100000 in
set_option maxHeartbeats 8000000 in
theorem natTens_any (v1 : Value) (dd : Int) (w : World) (hT : Tab10 w) (ha1 : ArgN w v1) (hd : 0 ≤ dd ∧ dd ≤ 255) :
    Calls Tryd.prog 8 #[v1, .int .u8 dd] w fun e w' => e = .returned (.bool true) ∧ Below w.heap.size w w' := by
  obtain ⟨D, hD⟩ : ∃ D : Nat, dd % 10 = (D : Int) := ⟨(dd % 10).toNat, by omega⟩
  have hD10 : D < 10 := by omega
  obtain ⟨hd0, hd1⟩ := hd
  go_enter Tryd.func8, Tryd.ntmps8
  have hL0 := Live.start w
  go_wp2_with fail
  refine (shown_any w hT).mono ?_
  rintro e w1 ⟨rfl, hb1⟩
  replace hL0 := hL0.go hb1
  clear hb1
  go_wp2_with fail
  refine (few_a 30 hL0 (v := v1) ha1 (by decide) (by decide)).mono ?_
  rintro e w2 ⟨a, X, rfl, hL2⟩
  clear hL0
  have hA := hL2.lit [10] #[.int .u64 10] 1 10 rfl (by decide) rfl (by decide)
  go_wp2_with fail
  refine (mul_l hA (by repeat (first | exact List.mem_cons_self | apply List.mem_cons_of_mem)) (by repeat (first | exact List.mem_cons_self | apply List.mem_cons_of_mem)) (by decide) (by decide)).mono ?_
  rintro e w3 ⟨p, rfl, hL3⟩
  clear hA hL2
  go_wp2_with fail
  refine (of_l D (by omega) hL3).mono ?_
  rintro e w4 ⟨q, rfl, hL4⟩
  clear hL3
  go_wp2_with fail
  refine (add_l hL4 (v1 := p) (v2 := q) (by repeat (first | exact List.mem_cons_self | apply List.mem_cons_of_mem)) (by repeat (first | exact List.mem_cons_self | apply List.mem_cons_of_mem)) (by decide) (by decide)).mono ?_
  rintro e w5 ⟨m, rfl, hL5'⟩
  clear hL4
  have hL5 := hL5'.keep (l' := [(m, max (30 + 1) 1 + 1, X * 10 + D), (q, 1, D), (a, 30, X)]) (by simp)
  clear hL5'
  have hdw : IntKind.u8.wrap (48 + (D : Int)) = ((48 + D : Nat) : Int) := by simp [IntKind.wrap, IntKind.bits, IntKind.signed]; omega
  have hcv := fun W g => convert_one W g (48 + D) (by omega)
  have htx : ∀ W, Below w5.heap.size w5 W → Calls Tryd.prog 20 #[a] W fun e w' => e = .returned (.string ⟨(Lib.decDigits X).toArray⟩) ∧ Below W.heap.size W w' := fun W hW => text_b hT (hL5.go hW) (v1 := a) (by repeat (first | exact List.mem_cons_self | apply List.mem_cons_of_mem)) (by decide)
  have hdl : (Lib.decDigits X).length ≤ 1920 := dec_words (k := 30) (hL5.get (by repeat (first | exact List.mem_cons_self | apply List.mem_cons_of_mem)) : IsN w5 a 30 X).lt (by omega)
  replace htx := Lib.hid htx
  go_wp2_with fail
  go_region_with (go_at_call 20; refine (htx.out _ (by first | exact (Below.refl _ _).drew | exact (Below.refl _ _).drew.alloc (by simp) _)).mono ?_; rintro e w6 ⟨rfl, hb6⟩; obtain ⟨hc6, hf6⟩ := bcell hb6)
  · have hB : Below w5.heap.size w5 (w6.alloc (.cells #[.int .u8 (48 + (D : Int))] 5)) := ((Below.refl _ w5).drew.trans hb6).alloc (by have := hb6.size; exact this) _
    clear hb6 hc6 hf6
    generalize (w6.alloc (.cells #[.int .u8 (48 + (D : Int))] 5)) = w7 at hB ⊢
    have hL6 := hL5.go hB
    clear hB hL5
    rcases Nat.eq_zero_or_pos X with h0 | h0
    · have hb6 := bits_l hL6 (v1 := a) (by repeat (first | exact List.mem_cons_self | apply List.mem_cons_of_mem)) (by decide)
      rw [h0, blen_zero] at hb6
      have htm : Lib.decDigits (X * 10 + D) = [dch (48 + D)] := by rw [h0, Nat.zero_mul, Nat.zero_add, dec_small hD10]; rfl
      replace h0 := Lib.hid h0
      replace hb6 := Lib.hid hb6
      replace htm := Lib.hid htm
      go_wp2_with fail
      refine hb6.out.mono ?_
      rintro e w' ⟨rfl, rfl⟩
      have hA := (hL6.go ((Below.refl _ _).alloc (Nat.le_refl _) (.cells #[.int .u8 (48 + (D : Int))] 5))).lit [10] #[.int .u64 10] 1 10 rfl (by decide) rfl (by decide)
      clear hL6 hb6
      rw [alloc_size] at hA
      go_wp2_with fail
      refine (div_l hA (v1 := m) (by repeat (first | exact List.mem_cons_self | apply List.mem_cons_of_mem)) (by repeat (first | exact List.mem_cons_self | apply List.mem_cons_of_mem)) (by decide) (by decide) (by decide)).mono ?_
      rintro e w8 ⟨qq, rr, rfl, hL8⟩
      clear hA
      have htxt := text_l hT hL8 (v1 := m) (by repeat (first | exact List.mem_cons_self | apply List.mem_cons_of_mem)) (by decide)
      rw [htm.out] at htxt
      replace htxt := Lib.hid htxt
      go_wp2_with fail
      refine htxt.out.mono ?_
      rintro e w9 ⟨rfl, hL9⟩
      try rw [← str_cat]
      clear hL8 htxt
      go_wp2_with fail
      refine (cmp_same hL9 (by repeat (first | exact List.mem_cons_self | apply List.mem_cons_of_mem)) (by repeat (first | exact List.mem_cons_self | apply List.mem_cons_of_mem)) (by decide) (by decide) (by omega)).mono ?_
      rintro e w10 ⟨rfl, hL10⟩
      clear hL9
      go_wp2_with fail
      refine (of_l D (by omega) hL10).mono ?_
      rintro e w11 ⟨dd2, rfl, hL11⟩
      clear hL10
      go_wp2_with fail
      refine (cmp_same hL11 (by repeat (first | exact List.mem_cons_self | apply List.mem_cons_of_mem)) (by repeat (first | exact List.mem_cons_self | apply List.mem_cons_of_mem)) (by decide) (by decide) (by omega)).mono ?_
      rintro e w12 ⟨rfl, hL12⟩
      go_wp2
      go_ret
      exact ⟨rfl, hL12.below⟩
    · have hbp := blen_pos h0
      have hb6 := bits_l hL6 (v1 := a) (by repeat (first | exact List.mem_cons_self | apply List.mem_cons_of_mem)) (by decide)
      generalize blen X = bl at hbp hb6
      have hbp' : ((bl : Int) == 0) = false := by simp; omega
      have htm : Lib.decDigits (X * 10 + D) = Lib.decDigits X ++ [dch (48 + D)] := by
        rw [dec_big (by omega), show (X * 10 + D) / 10 = X by omega, show (X * 10 + D) % 10 = D by omega]; rfl
      replace h0 := Lib.hid h0
      replace hb6 := Lib.hid hb6
      replace htm := Lib.hid htm
      go_wp2_with fail
      refine hb6.out.mono ?_
      rintro e w' ⟨rfl, rfl⟩
      have hA := hL6.lit [10] #[.int .u64 10] 1 10 rfl (by decide) rfl (by decide)
      clear hL6 hb6
      go_wp2_with fail
      refine (div_l hA (v1 := m) (by repeat (first | exact List.mem_cons_self | apply List.mem_cons_of_mem)) (by repeat (first | exact List.mem_cons_self | apply List.mem_cons_of_mem)) (by decide) (by decide) (by decide)).mono ?_
      rintro e w8 ⟨qq, rr, rfl, hL8⟩
      clear hA
      have htxt := text_l hT hL8 (v1 := m) (by repeat (first | exact List.mem_cons_self | apply List.mem_cons_of_mem)) (by decide)
      rw [htm.out] at htxt
      replace htxt := Lib.hid htxt
      go_wp2_with fail
      refine htxt.out.mono ?_
      rintro e w9 ⟨rfl, hL9⟩
      try rw [← str_cat]
      clear hL8 htxt
      go_wp2_with fail
      refine (cmp_same hL9 (by repeat (first | exact List.mem_cons_self | apply List.mem_cons_of_mem)) (by repeat (first | exact List.mem_cons_self | apply List.mem_cons_of_mem)) (by decide) (by decide) (by omega)).mono ?_
      rintro e w10 ⟨rfl, hL10⟩
      clear hL9
      go_wp2_with fail
      refine (of_l D (by omega) hL10).mono ?_
      rintro e w11 ⟨dd2, rfl, hL11⟩
      clear hL10
      go_wp2_with fail
      refine (cmp_same hL11 (by repeat (first | exact List.mem_cons_self | apply List.mem_cons_of_mem)) (by repeat (first | exact List.mem_cons_self | apply List.mem_cons_of_mem)) (by decide) (by decide) (by omega)).mono ?_
      rintro e w12 ⟨rfl, hL12⟩
      go_wp2
      go_ret
      exact ⟨rfl, hL12.below⟩
  · have hB : Below w5.heap.size w5 w6 := ((Below.refl _ w5).alloc (Nat.le_refl _) _).drew.trans (hb6.mono (by simp))
    clear hb6 hc6 hf6
    have hL6 := hL5.go hB
    clear hB hL5
    rcases Nat.eq_zero_or_pos X with h0 | h0
    · have hb6 := bits_l hL6 (v1 := a) (by repeat (first | exact List.mem_cons_self | apply List.mem_cons_of_mem)) (by decide)
      rw [h0, blen_zero] at hb6
      have htm : Lib.decDigits (X * 10 + D) = [dch (48 + D)] := by rw [h0, Nat.zero_mul, Nat.zero_add, dec_small hD10]; rfl
      replace h0 := Lib.hid h0
      replace hb6 := Lib.hid hb6
      replace htm := Lib.hid htm
      go_wp2_with fail
      refine hb6.out.mono ?_
      rintro e w' ⟨rfl, rfl⟩
      have hA := (hL6.go ((Below.refl _ _).alloc (Nat.le_refl _) (.cells #[.int .u8 (48 + (D : Int))] 5))).lit [10] #[.int .u64 10] 1 10 rfl (by decide) rfl (by decide)
      clear hL6 hb6
      rw [alloc_size] at hA
      go_wp2_with fail
      refine (div_l hA (v1 := m) (by repeat (first | exact List.mem_cons_self | apply List.mem_cons_of_mem)) (by repeat (first | exact List.mem_cons_self | apply List.mem_cons_of_mem)) (by decide) (by decide) (by decide)).mono ?_
      rintro e w8 ⟨qq, rr, rfl, hL8⟩
      clear hA
      have htxt := text_l hT hL8 (v1 := m) (by repeat (first | exact List.mem_cons_self | apply List.mem_cons_of_mem)) (by decide)
      rw [htm.out] at htxt
      replace htxt := Lib.hid htxt
      go_wp2_with fail
      refine htxt.out.mono ?_
      rintro e w9 ⟨rfl, hL9⟩
      try rw [← str_cat]
      clear hL8 htxt
      go_wp2_with fail
      refine (cmp_same hL9 (by repeat (first | exact List.mem_cons_self | apply List.mem_cons_of_mem)) (by repeat (first | exact List.mem_cons_self | apply List.mem_cons_of_mem)) (by decide) (by decide) (by omega)).mono ?_
      rintro e w10 ⟨rfl, hL10⟩
      clear hL9
      go_wp2_with fail
      refine (of_l D (by omega) hL10).mono ?_
      rintro e w11 ⟨dd2, rfl, hL11⟩
      clear hL10
      go_wp2_with fail
      refine (cmp_same hL11 (by repeat (first | exact List.mem_cons_self | apply List.mem_cons_of_mem)) (by repeat (first | exact List.mem_cons_self | apply List.mem_cons_of_mem)) (by decide) (by decide) (by omega)).mono ?_
      rintro e w12 ⟨rfl, hL12⟩
      go_wp2
      go_ret
      exact ⟨rfl, hL12.below⟩
    · have hbp := blen_pos h0
      have hb6 := bits_l hL6 (v1 := a) (by repeat (first | exact List.mem_cons_self | apply List.mem_cons_of_mem)) (by decide)
      generalize blen X = bl at hbp hb6
      have hbp' : ((bl : Int) == 0) = false := by simp; omega
      have htm : Lib.decDigits (X * 10 + D) = Lib.decDigits X ++ [dch (48 + D)] := by
        rw [dec_big (by omega), show (X * 10 + D) / 10 = X by omega, show (X * 10 + D) % 10 = D by omega]; rfl
      replace h0 := Lib.hid h0
      replace hb6 := Lib.hid hb6
      replace htm := Lib.hid htm
      go_wp2_with fail
      refine hb6.out.mono ?_
      rintro e w' ⟨rfl, rfl⟩
      have hA := hL6.lit [10] #[.int .u64 10] 1 10 rfl (by decide) rfl (by decide)
      clear hL6 hb6
      go_wp2_with fail
      refine (div_l hA (v1 := m) (by repeat (first | exact List.mem_cons_self | apply List.mem_cons_of_mem)) (by repeat (first | exact List.mem_cons_self | apply List.mem_cons_of_mem)) (by decide) (by decide) (by decide)).mono ?_
      rintro e w8 ⟨qq, rr, rfl, hL8⟩
      clear hA
      have htxt := text_l hT hL8 (v1 := m) (by repeat (first | exact List.mem_cons_self | apply List.mem_cons_of_mem)) (by decide)
      rw [htm.out] at htxt
      replace htxt := Lib.hid htxt
      go_wp2_with fail
      refine htxt.out.mono ?_
      rintro e w9 ⟨rfl, hL9⟩
      try rw [← str_cat]
      clear hL8 htxt
      go_wp2_with fail
      refine (cmp_same hL9 (by repeat (first | exact List.mem_cons_self | apply List.mem_cons_of_mem)) (by repeat (first | exact List.mem_cons_self | apply List.mem_cons_of_mem)) (by decide) (by decide) (by omega)).mono ?_
      rintro e w10 ⟨rfl, hL10⟩
      clear hL9
      go_wp2_with fail
      refine (of_l D (by omega) hL10).mono ?_
      rintro e w11 ⟨dd2, rfl, hL11⟩
      clear hL10
      go_wp2_with fail
      refine (cmp_same hL11 (by repeat (first | exact List.mem_cons_self | apply List.mem_cons_of_mem)) (by repeat (first | exact List.mem_cons_self | apply List.mem_cons_of_mem)) (by decide) (by decide) (by omega)).mono ?_
      rintro e w12 ⟨rfl, hL12⟩
      go_wp2
      go_ret
      exact ⟨rfl, hL12.below⟩
  · have hB : Below w5.heap.size w5 w6 := ((Below.refl _ w5).alloc (Nat.le_refl _) _).drew.trans (hb6.mono (by simp))
    clear hb6 hc6 hf6
    have hL6 := hL5.go hB
    clear hB hL5
    rcases Nat.eq_zero_or_pos X with h0 | h0
    · have hb6 := bits_l hL6 (v1 := a) (by repeat (first | exact List.mem_cons_self | apply List.mem_cons_of_mem)) (by decide)
      rw [h0, blen_zero] at hb6
      have htm : Lib.decDigits (X * 10 + D) = [dch (48 + D)] := by rw [h0, Nat.zero_mul, Nat.zero_add, dec_small hD10]; rfl
      replace h0 := Lib.hid h0
      replace hb6 := Lib.hid hb6
      replace htm := Lib.hid htm
      go_wp2_with fail
      refine hb6.out.mono ?_
      rintro e w' ⟨rfl, rfl⟩
      have hA := (hL6.go ((Below.refl _ _).alloc (Nat.le_refl _) (.cells #[.int .u8 (48 + (D : Int))] 5))).lit [10] #[.int .u64 10] 1 10 rfl (by decide) rfl (by decide)
      clear hL6 hb6
      rw [alloc_size] at hA
      go_wp2_with fail
      refine (div_l hA (v1 := m) (by repeat (first | exact List.mem_cons_self | apply List.mem_cons_of_mem)) (by repeat (first | exact List.mem_cons_self | apply List.mem_cons_of_mem)) (by decide) (by decide) (by decide)).mono ?_
      rintro e w8 ⟨qq, rr, rfl, hL8⟩
      clear hA
      have htxt := text_l hT hL8 (v1 := m) (by repeat (first | exact List.mem_cons_self | apply List.mem_cons_of_mem)) (by decide)
      rw [htm.out] at htxt
      replace htxt := Lib.hid htxt
      go_wp2_with fail
      refine htxt.out.mono ?_
      rintro e w9 ⟨rfl, hL9⟩
      try rw [← str_cat]
      clear hL8 htxt
      go_wp2_with fail
      refine (cmp_same hL9 (by repeat (first | exact List.mem_cons_self | apply List.mem_cons_of_mem)) (by repeat (first | exact List.mem_cons_self | apply List.mem_cons_of_mem)) (by decide) (by decide) (by omega)).mono ?_
      rintro e w10 ⟨rfl, hL10⟩
      clear hL9
      go_wp2_with fail
      refine (of_l D (by omega) hL10).mono ?_
      rintro e w11 ⟨dd2, rfl, hL11⟩
      clear hL10
      go_wp2_with fail
      refine (cmp_same hL11 (by repeat (first | exact List.mem_cons_self | apply List.mem_cons_of_mem)) (by repeat (first | exact List.mem_cons_self | apply List.mem_cons_of_mem)) (by decide) (by decide) (by omega)).mono ?_
      rintro e w12 ⟨rfl, hL12⟩
      go_wp2
      go_ret
      exact ⟨rfl, hL12.below⟩
    · have hbp := blen_pos h0
      have hb6 := bits_l hL6 (v1 := a) (by repeat (first | exact List.mem_cons_self | apply List.mem_cons_of_mem)) (by decide)
      generalize blen X = bl at hbp hb6
      have hbp' : ((bl : Int) == 0) = false := by simp; omega
      have htm : Lib.decDigits (X * 10 + D) = Lib.decDigits X ++ [dch (48 + D)] := by
        rw [dec_big (by omega), show (X * 10 + D) / 10 = X by omega, show (X * 10 + D) % 10 = D by omega]; rfl
      replace h0 := Lib.hid h0
      replace hb6 := Lib.hid hb6
      replace htm := Lib.hid htm
      go_wp2_with fail
      refine hb6.out.mono ?_
      rintro e w' ⟨rfl, rfl⟩
      have hA := hL6.lit [10] #[.int .u64 10] 1 10 rfl (by decide) rfl (by decide)
      clear hL6 hb6
      go_wp2_with fail
      refine (div_l hA (v1 := m) (by repeat (first | exact List.mem_cons_self | apply List.mem_cons_of_mem)) (by repeat (first | exact List.mem_cons_self | apply List.mem_cons_of_mem)) (by decide) (by decide) (by decide)).mono ?_
      rintro e w8 ⟨qq, rr, rfl, hL8⟩
      clear hA
      have htxt := text_l hT hL8 (v1 := m) (by repeat (first | exact List.mem_cons_self | apply List.mem_cons_of_mem)) (by decide)
      rw [htm.out] at htxt
      replace htxt := Lib.hid htxt
      go_wp2_with fail
      refine htxt.out.mono ?_
      rintro e w9 ⟨rfl, hL9⟩
      try rw [← str_cat]
      clear hL8 htxt
      go_wp2_with fail
      refine (cmp_same hL9 (by repeat (first | exact List.mem_cons_self | apply List.mem_cons_of_mem)) (by repeat (first | exact List.mem_cons_self | apply List.mem_cons_of_mem)) (by decide) (by decide) (by omega)).mono ?_
      rintro e w10 ⟨rfl, hL10⟩
      clear hL9
      go_wp2_with fail
      refine (of_l D (by omega) hL10).mono ?_
      rintro e w11 ⟨dd2, rfl, hL11⟩
      clear hL10
      go_wp2_with fail
      refine (cmp_same hL11 (by repeat (first | exact List.mem_cons_self | apply List.mem_cons_of_mem)) (by repeat (first | exact List.mem_cons_self | apply List.mem_cons_of_mem)) (by decide) (by decide) (by omega)).mono ?_
      rintro e w12 ⟨rfl, hL12⟩
      go_wp2
      go_ret
      exact ⟨rfl, hL12.below⟩
end Go.Proofs.YtdclphnakdmgjaaDoor
