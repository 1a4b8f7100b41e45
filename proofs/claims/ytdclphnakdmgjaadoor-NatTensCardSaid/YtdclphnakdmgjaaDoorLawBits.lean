/- The law NatBits, walked. Condition: the table of powers reads as it is laid. -/
import Derived.Test.YtdclphnakdmgjaaDoorLawParts
namespace Go.Proofs.YtdclphnakdmgjaaDoor
open Go.RowKit Go.Cal
section
variable {B w : World} {l : List (Value × Nat × Nat)} {v1 v2 : Value} {k1 k2 X Y : Nat}
theorem add_k (k' N : Nat) (h : Live B w l) (m1 : (v1, k1, X) ∈ l) (m2 : (v2, k2, Y) ∈ l) (b1 : k1 ≤ 1048576) (b2 : k2 ≤ 1048576) (hN : X + Y = N) (hk : N < 18446744073709551616 ^ k') :
    Calls Tryd.prog 11 #[v1, v2] w (Tells B l k' N) := by
  subst hN
  obtain ⟨A1, c1, z1, rfl, r1, hc1, hl1, d1, rfl⟩ := h.get m1
  obtain ⟨A2, c2, z2, rfl, r2, hc2, hl2, d2, rfl⟩ := h.get m2
  exact (add_any c1 c2 w r1 r2 (by omega) (by omega) d1 d2).mono fun e w' hr => tells_of_retN h hk hr
theorem shl_is (n : Int) (k' N : Nat) (h : Live B w l) (m1 : (v1, k1, X) ∈ l) (b1 : k1 ≤ 1048576) (hN : X * 2 ^ (min (max n 0) 131072).toNat = N) (hk : N < 18446744073709551616 ^ k') :
    Calls Tryd.prog 18 #[v1, .int .i64 n] w (Tells B l k' N) := by
  subst hN
  exact shl_l n k' h m1 b1 hk
end
theorem blen_words {X k : Nat} (h : X < 18446744073709551616 ^ k) : blen X ≤ 64 * k := blen_le (by rw [Nat.pow_mul]; exact h)
theorem pow_words {i k : Nat} (h : i < 64 * k) : 2 ^ i < 18446744073709551616 ^ k := by
  rw [show 18446744073709551616 = 2 ^ 64 from rfl, ← Nat.pow_mul]
  exact Nat.pow_lt_pow_right (by omega) h
theorem mod_bit (X i : Nat) : X % 2 ^ (i + 1) = X % 2 ^ i + if X.testBit i then 2 ^ i else 0 := by
  rw [Nat.pow_succ, Nat.mod_mul, Nat.testBit_eq_decide_div_mod_eq]
  by_cases h : X / 2 ^ i % 2 = 1
  · simp [h]
  · have : X / 2 ^ i % 2 = 0 := by omega
    simp [this]
theorem bit_lt_blen {X i : Nat} (h : X.testBit i = true) : i < blen X := by
  rcases Nat.lt_or_ge i (blen X) with hlt | hge
  · exact hlt
  · have h1 := blen_lt X
    have h2 : 2 ^ blen X ≤ 2 ^ i := Nat.pow_le_pow_right (by omega) hge
    rw [Nat.testBit_lt_two_pow (by omega)] at h
    cases h
theorem top_bit {X n : Nat} (hn : blen X = n + 1) : X.testBit n = true := by
  have h0 : X ≠ 0 := by intro e; subst e; simp [blen] at hn
  have h1 := blen_lt X
  have h2 : 2 ^ n ≤ X := by
    unfold blen at hn
    rw [if_neg h0] at hn
    have h4 := Nat.log2_self_le h0
    rwa [show X.log2 = n by omega] at h4
  rw [hn, Nat.pow_succ] at h1
  rw [Nat.testBit_eq_decide_div_mod_eq, decide_eq_true_eq]
  have hp := Nat.two_pow_pos n
  have h3 : X / 2 ^ n = 1 := by
    apply Nat.le_antisymm
    · have := (Nat.div_lt_iff_lt_mul hp).2 (show X < 2 * 2 ^ n by omega)
      omega
    · exact (Nat.le_div_iff_mul_le hp).2 (by omega)
  rw [h3]
set_option maxRecDepth 100000 in
set_option maxHeartbeats 8000000 in
theorem natBits_any (v1 : Value) (w : World) (hT : Tab10 w) (ha1 : ArgN w v1) :
    Calls Tryd.prog 6 #[v1] w fun e w' => e = .returned (.bool true) ∧ Below w.heap.size w w' := by
  go_enter Tryd.func6, Tryd.ntmps6
  have hL0 := Live.start w
  go_wp2_with fail
  refine (shown_any w hT).mono ?_
  rintro e w1 ⟨rfl, hb1⟩
  replace hL0 := hL0.go hb1
  clear hb1
  go_wp2_with fail
  refine (few_a 10 hL0 (v := v1) ha1 (by decide) (by decide)).mono ?_
  rintro e w2 ⟨a, X, rfl, hL2⟩
  clear hL0
  have hXb : X < 18446744073709551616 ^ 10 := (hL2.get (by repeat (first | exact List.mem_cons_self | apply List.mem_cons_of_mem)) : IsN w2 a 10 X).lt
  obtain ⟨n, hn⟩ : ∃ n, blen X = n := ⟨_, rfl⟩
  have hnb : n ≤ 640 := hn ▸ blen_words hXb
  have hbits := bits_l hL2 (v1 := a) (by repeat (first | exact List.mem_cons_self | apply List.mem_cons_of_mem)) (by decide)
  rw [hn] at hbits
  replace hbits := Lib.hid hbits
  replace hXb := Lib.hid hXb
  replace hn := Lib.hid hn
  go_wp2_with fail
  refine hbits.out.mono ?_
  rintro e w' ⟨rfl, rfl⟩
  clear hbits
  go_wp2
  go_loopg [5, 6] (n + 5) (fun k sv iv wr => ∃ i : Nat, iv = .int .i64 i ∧ i + k = n + 5 ∧ Live w wr [(sv, 10, X % 2 ^ i), (a, 10, X)])
  case atStart => exact ⟨0, rfl, by omega, (hL2.keep (by simp)).put (by rw [Nat.pow_zero, Nat.mod_one]; exact (IsN.nil w2).more (by omega))⟩
  case round =>
    clear hL2
    obtain ⟨i, rfl, hik, hL⟩ := hrel
    by_cases h0 : gk = 0
    · subst h0
      have hi : i = n + 5 := by omega
      have hXm : X % 2 ^ i = X := Nat.mod_eq_of_lt (Nat.lt_of_lt_of_le (blen_lt X) (Nat.pow_le_pow_right (by omega) (by rw [hn.out]; omega)))
      rw [hXm] at hL
      have hge : ¬ (i : Int) < (n : Int) + 5 := by omega
      replace hXm := Lib.hid hXm
      replace hi := Lib.hid hi
      go_wp2_with fail
      refine (cmp_same hL (by repeat (first | exact List.mem_cons_self | apply List.mem_cons_of_mem)) (by repeat (first | exact List.mem_cons_self | apply List.mem_cons_of_mem)) (by decide) (by decide) rfl).mono ?_
      rintro e w3 ⟨rfl, hL3⟩
      clear hL
      have hb0 := bit_l 0 (by decide) hL3 (v1 := a) (by repeat (first | exact List.mem_cons_self | apply List.mem_cons_of_mem))
      have hev := even_l hL3 (v1 := a) (by repeat (first | exact List.mem_cons_self | apply List.mem_cons_of_mem))
      generalize X.testBit 0 = tb at hb0 hev
      replace hb0 := Lib.hid hb0
      replace hev := Lib.hid hev
      by_cases hn0 : n = 0
      · have hn0' : ((n : Int) == 0) = true := by simp; omega
        replace hn0 := Lib.hid hn0
        go_wp2_with fail
        refine hev.out.mono ?_
        rintro e w' ⟨rfl, rfl⟩
        go_wp2_with fail
        refine hb0.out.mono ?_
        rintro e w' ⟨rfl, rfl⟩
        go_wp2
        go_ret
        exact ⟨rfl, hL3.below⟩
      · have hn0' : ((n : Int) == 0) = false := by simp; omega
        obtain ⟨m, hm⟩ : ∃ m, n = m + 1 := ⟨n - 1, by omega⟩
        have hmi : (n : Int) - 1 = (m : Int) := by omega
        have htop := bit_l m (by omega) hL3 (v1 := a) (by repeat (first | exact List.mem_cons_self | apply List.mem_cons_of_mem))
        rw [top_bit (hn.out.trans hm)] at htop
        replace hm := Lib.hid hm
        replace htop := Lib.hid htop
        replace hn0 := Lib.hid hn0
        go_wp2_with fail
        refine htop.out.mono ?_
        rintro e w' ⟨rfl, rfl⟩
        go_wp2_with fail
        refine hev.out.mono ?_
        rintro e w' ⟨rfl, rfl⟩
        go_wp2_with fail
        refine hb0.out.mono ?_
        rintro e w' ⟨rfl, rfl⟩
        go_wp2
        go_ret
        exact ⟨rfl, hL3.below⟩
    · have hlt : (i : Int) < (n : Int) + 5 := by omega
      have hib : (i : Int) ≤ 645 := by omega
      have hmb := mod_bit X i
      cases htb : X.testBit i with
      | true =>
        have hlt2 := bit_lt_blen htb
        rw [hn.out] at hlt2
        rw [htb, if_pos rfl] at hmb
        have hbt := bit_l i (by omega) hL (v1 := a) (by repeat (first | exact List.mem_cons_self | apply List.mem_cons_of_mem))
        rw [htb] at hbt
        have hni : ¬ (n : Int) ≤ (i : Int) := by omega
        have hpb : 2 ^ i < 18446744073709551616 ^ 11 := pow_words (by omega)
        have hpi : 1 * 2 ^ (min (max (i : Int) 0) 131072).toNat = 2 ^ i := by rw [Nat.one_mul]; congr 1; omega
        have hmm : X % 2 ^ (i + 1) < 18446744073709551616 ^ 10 := Nat.lt_of_le_of_lt (Nat.mod_le _ _) hXb.out
        replace hbt := Lib.hid hbt
        replace hmb := Lib.hid hmb
        replace htb := Lib.hid htb
        replace hpb := Lib.hid hpb
        replace hpi := Lib.hid hpi
        replace hmm := Lib.hid hmm
        go_wp2_with fail
        refine hbt.out.mono ?_
        rintro e w' ⟨rfl, rfl⟩
        have hA := hL.lit [1] #[.int .u64 1] 1 1 rfl (by decide) rfl (by decide)
        clear hL
        go_wp2_with fail
        refine (shl_is (i : Int) 11 (2 ^ i) hA (by repeat (first | exact List.mem_cons_self | apply List.mem_cons_of_mem)) (by decide) hpi.out hpb.out).mono ?_
        rintro e w3 ⟨p3, rfl, hL3⟩
        clear hA
        go_wp2_with fail
        refine (add_k 10 (X % 2 ^ (i + 1)) hL3 (by repeat (first | exact List.mem_cons_self | apply List.mem_cons_of_mem)) (by repeat (first | exact List.mem_cons_self | apply List.mem_cons_of_mem)) (by decide) (by decide) hmb.out.symm hmm.out).mono ?_
        rintro e w4 ⟨s4, rfl, hL4⟩
        clear hL3
        go_wp2
        go_roundg (gk - 1)
        case measure => omega
        case rel => exact ⟨i + 1, by go_num, by omega, hL4.keep (by simp)⟩
      | false =>
        replace hmb : X % 2 ^ (i + 1) = X % 2 ^ i := by rw [hmb, htb]; simp
        have hbt := bit_l i (by omega) hL (v1 := a) (by repeat (first | exact List.mem_cons_self | apply List.mem_cons_of_mem))
        rw [htb] at hbt
        replace hbt := Lib.hid hbt
        replace htb := Lib.hid htb
        rw [← hmb] at hL
        replace hmb := Lib.hid hmb
        go_wp2_with fail
        refine hbt.out.mono ?_
        rintro e w' ⟨rfl, rfl⟩
        go_wp2
        go_roundg (gk - 1)
        case measure => omega
        case rel => exact ⟨i + 1, by go_num, by omega, hL⟩
end Go.Proofs.YtdclphnakdmgjaaDoor
