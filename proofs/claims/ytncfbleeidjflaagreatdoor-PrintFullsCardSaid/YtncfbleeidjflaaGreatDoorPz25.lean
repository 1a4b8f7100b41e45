/- The document's magnitudes: numbers; walked. Conditions: none. -/
/- The document's magnitudes: posits' numbers; walked. Conditions: none. -/
/- The document's half words, first part: without noughts; a half word at a place; order. Conditions: lengths below 2^40. -/
/- The document's half words, second part: words as half words; sums, differences, order. Conditions: a number's half words are counted. -/
/- The document's half words, third part: sums, differences, order. Conditions: a number's half words are counted. -/
import Derived.Test.YtncfbleeidjflaaGreatDoorPz24
import Derived.Test.YtncfbleeidjflaaGreatDoorPz19
import Derived.Test.YtncfbleeidjflaaGreatDoorPz03
import Derived.Deep.AppendLies
namespace Go.Proofs.YtncfbleeidjflaaGreatDoor
open Go.RowKit Go.Cal
/-- A posit's fields, as the document tells them. -/
theorem rsplit5_any (n key : Nat) (hn : 2 ≤ n) (hn' : n ≤ 64) (h0 : 0 < key) (hk : key < 2 ^ n) (w : World) :
    Calls Tryz.prog 187 #[.int .i64 ((n : Int) + 1), .int .u64 (key : Nat)] w fun e w' => e = .returned (.tuple #[.agg #[.int .i64 (poR n key), .int .i64 (poE (poL n key) (key % 2 ^ poL n key) : Nat), .int .u64 (key % 2 ^ poL n key % 2 ^ (poL n key - 2) : Nat), .int .i64 (poL n key - 2 : Nat)], .bool true]) ∧ Below w.heap.size w w' := by
  by_cases hlow : key < 2 ^ (n - 1)
  · obtain ⟨a1, a2, a3, a4⟩ := run_zero (by omega) h0 hlow
    have hL : poL n key = n - (n - bl key) - 1 := by unfold poL; rw [if_pos hlow]; have := bl_iff.2 hk; omega
    have hR : poR n key = -((n - bl key : Nat) : Int) := by unfold poR; rw [if_pos hlow]; have := bl_iff.2 hk; omega
    have := rsplit5_go n key (n - bl key) (poL n key) (poR n key) hn hn' h0 hk a2 a3 hL (.inl ⟨a1, hR⟩) w
    exact this
  · obtain ⟨a1, a2, a3⟩ := run_ones (by omega) hk (by omega)
    have hb : bl (2 ^ n - 1 - key) ≤ n - 1 := bl_iff.2 (by
      have e : 2 ^ n = 2 ^ (n - 1) * 2 := by rw [← Nat.pow_succ]; congr 1; omega
      omega)
    have hL : poL n key = n - (n - bl (2 ^ n - 1 - key)) - 1 := by unfold poL; rw [if_neg hlow]; omega
    have hR : poR n key = ((n - bl (2 ^ n - 1 - key) : Nat) : Int) - 1 := by unfold poR; rw [if_neg hlow]; omega
    have := rsplit5_go n key (n - bl (2 ^ n - 1 - key)) (poL n key) (poR n key) hn hn' h0 hk a2 a3 hL (.inr ⟨a1, hR⟩) w
    exact this
set_option maxRecDepth 100000 in
set_option maxHeartbeats 4000000 in
theorem rval6_any (man bias key : Nat) (h1 : man ≤ 60) (hb : bias ≤ 2000) (hk : key < 18446744073709551616) (h2 : key / 2 ^ man ≤ 4095) (w : World) :
    Calls Tryz.prog 157 #[.int .i64 (man : Nat), .int .i64 (bias : Nat), .int .u64 (key : Nat)] w fun e w' => e = .returned (.tuple #[.int .u64 ((oddP 64 (miM man key) ((miE man key : Int) - bias - man)).1 : Nat), .int .i64 (oddP 64 (miM man key) ((miE man key : Int) - bias - man)).2]) ∧ Below w.heap.size w w' := by
  have hsp := Lib.hid (rsplit6_any man key h1 hk w)
  have hpw := Lib.hid fun w => rpow6_any man h1 w
  have hml : key % 2 ^ man < 2 ^ man := Nat.mod_lt _ (Nat.two_pow_pos man)
  have hp60 : 2 ^ man ≤ 1152921504606846976 := Nat.le_trans (Nat.pow_le_pow_right (by decide) h1) (by decide)
  obtain ⟨f, hf⟩ : ∃ f, key / 2 ^ man = f := ⟨_, rfl⟩
  obtain ⟨r, hr⟩ : ∃ r, key % 2 ^ man = r := ⟨_, rfl⟩
  have hM : miM man key = if f = 0 then r else 2 ^ man + r := by unfold miM; rw [hf, hr]
  have hE : (miE man key : Int) = if f = 0 then 1 else (f : Int) := by unfold miE; rw [hf]; split <;> omega
  rw [hM, hE]
  rw [hf, hr] at hsp
  rw [hf] at h2
  rw [hr] at hml
  obtain ⟨x, hx⟩ : ∃ x, 2 ^ man = x := ⟨_, rfl⟩
  rw [hx] at hpw hml hp60 ⊢
  clear hM hE hf hr hx
  by_cases hf0 : f = 0
  · subst hf0
    rw [if_pos rfl, if_pos rfl]
    by_cases hr0 : r = 0
    · subst hr0
      have hz : oddP 64 0 (1 - (bias : Int) - man) = (0, 0) := by unfold oddP; rw [if_pos rfl]
      rw [hz]
      go_enter Tryz.func157, Tryz.ntmps157
      go_wp2_with fail
      refine hsp.out.mono ?_
      rintro e w1 ⟨rfl, hb1⟩
      go_wp2
      go_ret2
      exact ⟨rfl, hb1⟩
    have h0 : 0 < r := by omega
    generalize r = m at hsp hml h0 hr0 ⊢
    obtain ⟨e, he⟩ : ∃ e, 1 - (bias : Int) - man = e := ⟨_, rfl⟩
    have heb : -100000 ≤ e ∧ e ≤ 100000 := by omega
    have hm : m < 18446744073709551616 := by omega
    have hm1 : ¬ (m : Int) = 0 := by omega
    rw [he]
    have hT : tzN 64 m ≤ 64 := tz_le
    have hend := tz_end (f := 64) h0 (by simpa using hm)
    have hgo := fun t (h : t < tzN 64 m) => (tz_go h).1
    obtain ⟨T, hTd⟩ : ∃ T, tzN 64 m = T := ⟨_, rfl⟩
    rw [hTd] at hT hend hgo
    have hP : oddP 64 m e = (m / 2 ^ T, e + T) := by unfold oddP; rw [if_neg (by omega), hTd]
    rw [hP]
    clear hTd hP
    go_enter Tryz.func157, Tryz.ntmps157
    go_wp2_with fail
    refine hsp.out.mono ?_
    rintro e' w1 ⟨rfl, hb1⟩
    go_wp2_with fail
    try rw [he]
    go_loopg [9, 10] T (fun g mv ev wr => ∃ t : Nat, mv = .int .u64 ((m / 2 ^ t : Nat) : Int) ∧ ev = .int .i64 (e + t) ∧ t + g = T ∧ wr = w1)
    case atStart => exact ⟨0, by simp, by simp, by omega, rfl⟩
    case round =>
      obtain ⟨t, rfl, rfl, htg, rfl⟩ := hrel
      by_cases ht : t < T
      · have h2 := hgo t ht
        obtain ⟨q, hq⟩ : ∃ q, m / 2 ^ t = q := ⟨_, rfl⟩
        have hq2 : m / 2 ^ (t + 1) = q / 2 := by rw [← hq, key_half]
        have hqb : q < 18446744073709551616 := by rw [← hq]; exact Nat.lt_of_le_of_lt (Nat.div_le_self _ _) hm
        rw [hq] at h2 ⊢
        have h2i : (q : Int) % 2 = 0 := by omega
        go_wp2_with fail
        go_roundg (gk - 1)
        case measure => omega
        case rel => exact ⟨t + 1, by rw [hq2]; simp, by simp; omega, by omega, rfl⟩
      · have hTt : t = T := by omega
        subst hTt
        obtain ⟨q, hq⟩ : ∃ q, m / 2 ^ t = q := ⟨_, rfl⟩
        have hqb : q < 18446744073709551616 := by rw [← hq]; exact Nat.lt_of_le_of_lt (Nat.div_le_self _ _) hm
        rw [hq] at hend ⊢
        have h2i : (q : Int) % 2 = 1 := by omega
        go_wp2
        go_ret2
        exact ⟨by simp [hq], hb1⟩
  · rw [if_neg hf0, if_neg hf0]
    obtain ⟨m, hmd⟩ : ∃ m, x + r = m := ⟨_, rfl⟩
    obtain ⟨e, he⟩ : ∃ e, (f : Int) - bias - man = e := ⟨_, rfl⟩
    have h0 : 0 < m := by omega
    have hm : m < 18446744073709551616 := by omega
    have heb : -100000 ≤ e ∧ e ≤ 100000 := by omega
    have hm1 : ¬ (m : Int) = 0 := by omega
    have hsum : (r : Int) + (x : Int) = (m : Int) := by omega
    have hfp : (0 : Int) < (f : Int) := by omega
    rw [he, hmd]
    have hT : tzN 64 m ≤ 64 := tz_le
    have hend := tz_end (f := 64) h0 (by simpa using hm)
    have hgo := fun t (h : t < tzN 64 m) => (tz_go h).1
    obtain ⟨T, hTd⟩ : ∃ T, tzN 64 m = T := ⟨_, rfl⟩
    rw [hTd] at hT hend hgo
    have hP : oddP 64 m e = (m / 2 ^ T, e + T) := by unfold oddP; rw [if_neg (by omega), hTd]
    rw [hP]
    clear hTd hP
    go_enter Tryz.func157, Tryz.ntmps157
    go_wp2_with fail
    refine hsp.out.mono ?_
    rintro e' w1 ⟨rfl, hb1⟩
    go_wp2_with fail
    refine (hpw.out _).mono ?_
    rintro e' w2 ⟨rfl, rfl⟩
    go_wp2_with fail
    try rw [he]
    try rw [hsum]
    go_loopg [9, 10] T (fun g mv ev wr => ∃ t : Nat, mv = .int .u64 ((m / 2 ^ t : Nat) : Int) ∧ ev = .int .i64 (e + t) ∧ t + g = T ∧ wr = w1)
    case atStart => exact ⟨0, by simp, by simp, by omega, rfl⟩
    case round =>
      obtain ⟨t, rfl, rfl, htg, rfl⟩ := hrel
      by_cases ht : t < T
      · have h2 := hgo t ht
        obtain ⟨q, hq⟩ : ∃ q, m / 2 ^ t = q := ⟨_, rfl⟩
        have hq2 : m / 2 ^ (t + 1) = q / 2 := by rw [← hq, key_half]
        have hqb : q < 18446744073709551616 := by rw [← hq]; exact Nat.lt_of_le_of_lt (Nat.div_le_self _ _) hm
        rw [hq] at h2 ⊢
        have h2i : (q : Int) % 2 = 0 := by omega
        go_wp2_with fail
        go_roundg (gk - 1)
        case measure => omega
        case rel => exact ⟨t + 1, by rw [hq2]; simp, by simp; omega, by omega, rfl⟩
      · have hTt : t = T := by omega
        subst hTt
        obtain ⟨q, hq⟩ : ∃ q, m / 2 ^ t = q := ⟨_, rfl⟩
        have hqb : q < 18446744073709551616 := by rw [← hq]; exact Nat.lt_of_le_of_lt (Nat.div_le_self _ _) hm
        rw [hq] at hend ⊢
        have h2i : (q : Int) % 2 = 1 := by omega
        go_wp2
        go_ret2
        exact ⟨by simp [hq], hb1⟩
end Go.Proofs.YtncfbleeidjflaaGreatDoor
namespace Go.Proofs.YtncfbleeidjflaaGreatDoor
open Go.RowKit Go.Cal
set_option maxRecDepth 100000 in
set_option maxHeartbeats 4000000 in
theorem rval5_any (n key : Nat) (hn : 2 ≤ n) (hn' : n ≤ 64) (h0 : 0 < key) (hk : key < 2 ^ n) (w : World) :
    Calls Tryz.prog 156 #[.int .i64 ((n : Int) + 1), .int .u64 (key : Nat)] w fun e w' => e = .returned (.tuple #[.int .u64 ((oddP 64 (poF (poL n key) (key % 2 ^ poL n key)) (4 * poR n key + poE (poL n key) (key % 2 ^ poL n key) - (poL n key - 2 : Nat))).1 : Nat), .int .i64 (oddP 64 (poF (poL n key) (key % 2 ^ poL n key)) (4 * poR n key + poE (poL n key) (key % 2 ^ poL n key) - (poL n key - 2 : Nat))).2, .bool true]) ∧ Below w.heap.size w w' := by
  have hsp := Lib.hid (rsplit5_any n key hn hn' h0 hk w)
  have hLn := poL_le hk
  have hRn := poR_ge hk
  have hX4 := poE_lt (Nat.mod_lt key (Nat.two_pow_pos (poL n key)))
  obtain ⟨R, hR⟩ : ∃ R, poR n key = R := ⟨_, rfl⟩
  obtain ⟨L, hL⟩ : ∃ L, poL n key = L := ⟨_, rfl⟩
  rw [hR] at hsp hRn ⊢
  rw [hL] at hsp hLn hX4 ⊢
  obtain ⟨X, hX⟩ : ∃ X, poE L (key % 2 ^ L) = X := ⟨_, rfl⟩
  rw [hX] at hsp hX4 ⊢
  have hF : poF L (key % 2 ^ L) = 2 ^ (L - 2) + key % 2 ^ L % 2 ^ (L - 2) := rfl
  have hYl : key % 2 ^ L % 2 ^ (L - 2) < 2 ^ (L - 2) := Nat.mod_lt _ (Nat.two_pow_pos _)
  obtain ⟨Y, hY⟩ : ∃ Y, key % 2 ^ L % 2 ^ (L - 2) = Y := ⟨_, rfl⟩
  rw [hY] at hsp hF hYl
  rw [hF]
  obtain ⟨B, hB⟩ : ∃ B, L - 2 = B := ⟨_, rfl⟩
  have hB62 : B ≤ 62 := by omega
  rw [hB] at hsp hYl ⊢
  have hp62 : 2 ^ B ≤ 4611686018427387904 := Nat.le_trans (Nat.pow_le_pow_right (by decide) hB62) (by decide)
  obtain ⟨one, hone⟩ : ∃ one, 2 ^ B = one := ⟨_, rfl⟩
  rw [hone] at hYl hp62 ⊢
  obtain ⟨e, he⟩ : ∃ e, 4 * R + (X : Int) - (B : Int) = e := ⟨_, rfl⟩
  have heb : -100000 ≤ e ∧ e ≤ 100000 := by omega
  obtain ⟨m, hmd⟩ : ∃ m, one + Y = m := ⟨_, rfl⟩
  have hm0 : 0 < m := by omega
  have hm : m < 18446744073709551616 := by omega
  have hsum : (Y : Int) + (one : Int) = (m : Int) := by omega
  rw [he, hmd]
  have hRb : -100 ≤ R ∧ R ≤ 100 := by omega
  clear hR hL hX hF hY hB hLn hRn h0 hk hn hn'
  have h0 : 0 < m := hm0
  have hT : tzN 64 m ≤ 64 := tz_le
  have hend := tz_end (f := 64) h0 (by simpa using hm)
  have hgo := fun t (h : t < tzN 64 m) => (tz_go h).1
  obtain ⟨T, hTd⟩ : ∃ T, tzN 64 m = T := ⟨_, rfl⟩
  rw [hTd] at hT hend hgo
  have hP : oddP 64 m e = (m / 2 ^ T, e + T) := by unfold oddP; rw [if_neg (by omega), hTd]
  rw [hP]
  clear hTd hP
  go_enter Tryz.func156, Tryz.ntmps156
  go_wp2_with fail
  refine hsp.out.mono ?_
  rintro e' w1 ⟨rfl, hb1⟩
  have hB1 := hb1.trans (((Below.refl w1.heap.size w1).alloc (Nat.le_refl _) (.cells #[.int .i64 R, .int .i64 (X : Nat), .int .u64 (Y : Nat), .int .i64 (B : Nat)] 228)).mono hb1.size)
  clear hsp hb1
  go_wp2_with fail
  go_loopg [10, 11] B (fun g ov iv wr => ∃ t : Nat, ov = .int .u64 ((2 ^ t : Nat) : Int) ∧ iv = .int .i64 (t : Nat) ∧ t + g = B ∧ wr = w1.alloc (.cells #[.int .i64 R, .int .i64 (X : Nat), .int .u64 (Y : Nat), .int .i64 (B : Nat)] 228))
  case atStart => exact ⟨0, by simp, rfl, by omega, rfl⟩
  case round =>
    obtain ⟨t, rfl, rfl, htg, rfl⟩ := hrel
    by_cases ht : t < B
    · obtain ⟨q, hq⟩ : ∃ q, 2 ^ t = q := ⟨_, rfl⟩
      have hq2 : 2 ^ (t + 1) = 2 * q := by rw [Nat.pow_succ, hq]; omega
      have hqb : q ≤ 4611686018427387904 := by rw [← hq]; exact Nat.le_trans (Nat.pow_le_pow_right (by decide) (show t ≤ 62 by omega)) (by decide)
      rw [hq]
      have hl : (t : Int) < (B : Int) := by omega
      go_wp2_with fail
      go_roundg (gk - 1)
      case measure => omega
      case rel => exact ⟨t + 1, by rw [hq2]; simp, by simp, by omega, rfl⟩
    · have htB : B = t := by omega
      subst htB
      rw [hone]
      clear hone
      have hl : ¬ (B : Int) < (B : Int) := by omega
      clear htg
      go_wp2_with fail
      try rw [he]
      try rw [hsum]
      go_loopg [9, 12] T (fun g mv ev wr => ∃ t : Nat, mv = .int .u64 ((m / 2 ^ t : Nat) : Int) ∧ ev = .int .i64 (e + t) ∧ t + g = T ∧ wr = w1.alloc (.cells #[.int .i64 R, .int .i64 (X : Nat), .int .u64 (Y : Nat), .int .i64 (B : Nat)] 228))
      case atStart => exact ⟨0, by simp, by simp, by omega, rfl⟩
      case round =>
        obtain ⟨t, rfl, rfl, htg, rfl⟩ := hrel
        by_cases ht : t < T
        · have h2 := hgo t ht
          obtain ⟨q, hq⟩ : ∃ q, m / 2 ^ t = q := ⟨_, rfl⟩
          have hq2 : m / 2 ^ (t + 1) = q / 2 := by rw [← hq, key_half]
          have hqb : q < 18446744073709551616 := by rw [← hq]; exact Nat.lt_of_le_of_lt (Nat.div_le_self _ _) hm
          rw [hq] at h2 ⊢
          have h2i : (q : Int) % 2 = 0 := by omega
          go_wp2_with fail
          go_roundg (gk - 1)
          case measure => omega
          case rel => exact ⟨t + 1, by rw [hq2]; simp, by simp; omega, by omega, rfl⟩
        · have hTt : t = T := by omega
          subst hTt
          obtain ⟨q, hq⟩ : ∃ q, m / 2 ^ t = q := ⟨_, rfl⟩
          have hqb : q < 18446744073709551616 := by rw [← hq]; exact Nat.lt_of_le_of_lt (Nat.div_le_self _ _) hm
          rw [hq] at hend ⊢
          have h2i : (q : Int) % 2 = 1 := by omega
          go_wp2
          refine bodyPost_ret (v := .tuple #[.int .u64 (q : Nat), .int .i64 (e + t), .bool true]) (by simp [results, Tryz.results156, go_sem]) rfl ⟨by simp [hq], hB1⟩
end Go.Proofs.YtncfbleeidjflaaGreatDoor
namespace Go.Proofs.YtncfbleeidjflaaGreatDoor
open Go.RowKit Go.Cal
theorem under_u64s : Tryz.prog.underlying 32 = some (.slice 22) := by kernel_rfl
/-- Half words of a number, without noughts at the end. -/
structure NrmH (zs : List Nat) (N : Nat) : Prop where
  dig : Dig 4294967296 zs
  top : Top zs
  val : vl 4294967296 zs = N
theorem NrmH.length_le {zs : List Nat} {N k : Nat} (h : NrmH zs N) (hN : N < 4294967296 ^ k) : zs.length ≤ k := by
  rcases Nat.lt_or_ge k zs.length with hlt | hge
  · exfalso
    have h1 := vl_pos (b := 4294967296) h.top (by intro e; subst e; simp at hlt)
    rw [h.val] at h1
    have h2 : 4294967296 ^ k ≤ 4294967296 ^ (zs.length - 1) := Nat.pow_le_pow_right (by omega) (by omega)
    omega
  · exact hge
theorem NrmH.zero : NrmH [] 0 := ⟨fun x hx => by simp at hx, fun h => absurd rfl h, rfl⟩
theorem NrmH.lt {zs : List Nat} {N : Nat} (h : NrmH zs N) : N < 4294967296 ^ zs.length := h.val ▸ vl_lt h.dig
/-- The value reads as the number N in half words. -/
def IsH (w : World) (v : Value) (k N : Nat) : Prop :=
  ∃ A c zs, v = .slice A (zs : List Nat).length c ∧ RdU w w.heap.size A zs ∧ zs.length ≤ c ∧ (c ≤ maxLen ∧ (A = none → c = 0)) ∧ zs.length ≤ k ∧ NrmH zs N
theorem IsH.below {w w' : World} {v : Value} {k N : Nat} (h : IsH w v k N) (hb : Below w.heap.size w w') : IsH w' v k N := by
  obtain ⟨A, c, zs, h1, h2, h3⟩ := h
  exact ⟨A, c, zs, h1, (h2.below hb).more hb.size, h3⟩
theorem IsH.lt {w : World} {v : Value} {k N : Nat} (h : IsH w v k N) : N < 4294967296 ^ k := by
  obtain ⟨A, c, zs, h1, h2, h3, h4, h5, h6⟩ := h
  exact Nat.lt_of_lt_of_le h6.lt (Nat.pow_le_pow_right (by omega) h5)
theorem IsH.fit {w : World} {v : Value} {k k' N : Nat} (h : IsH w v k N) (hk : N < 4294967296 ^ k') : IsH w v k' N := by
  obtain ⟨A, c, zs, h1, h2, h3, h4, h5, h6⟩ := h
  exact ⟨A, c, zs, h1, h2, h3, h4, h6.length_le hk, h6⟩
def pH (v : Value) (k N : Nat) (w : World) : Prop := IsH w v k N
theorem pH_st (v : Value) (k N : Nat) : Stable (pH v k N) := fun _ _ h hb => IsH.below h hb
theorem get_any {B : Nat} {A : Option Addr} {xs : List Nat} (c : Nat) (i : Nat) (w : World) (h : RdU w B A xs) :
    Calls Tryz.prog 178 #[.slice A xs.length c, .int .i64 i] w fun e w' => e = .returned (.int .u64 (xs.getD i 0 : Nat)) ∧ w = w' := by
  by_cases hi : i < xs.length
  · obtain ⟨b, off, rfl, hb, hc⟩ := h.at hi
    have hc0 := hc i hi
    have h1 : (i : Int) < (xs.length : Int) := by omega
    clear hc h
    generalize xs.getD i 0 = x at *
    go_enter Tryz.func178, Tryz.ntmps178
    go_wp2
    go_ret
    exact ⟨rfl, rfl⟩
  · have h1 : ¬ (i : Int) < (xs.length : Int) := by omega
    clear h
    go_enter Tryz.func178, Tryz.ntmps178
    go_wp2
    go_ret
    exact ⟨rfl, rfl⟩
/-- What Trim tells. -/
def TrimH (A : Option Addr) (c : Nat) (xs : List Nat) (e : Ending) : Prop :=
  ∃ zs : List Nat, e = .returned (.slice A zs.length c) ∧ (∃ n, zs = xs.take n) ∧ Top zs ∧ ∀ b, vl b zs = vl b xs
theorem TrimH.of {A : Option Addr} {c : Nat} {xs : List Nat} {n : Nat} (h1 : n ≤ xs.length) (h2 : ∀ j, n ≤ j → j < xs.length → xs.getD j 0 = 0) (h3 : n = 0 ∨ xs.getD (n - 1) 0 ≠ 0) :
    TrimH A c xs (.returned (.slice A n c)) := by
  refine ⟨xs.take n, ?_, ⟨n, rfl⟩, top_take h1 h3, fun b => vl_trim h2⟩
  rw [List.length_take, Nat.min_eq_left h1]
set_option maxHeartbeats 400000 in
theorem rtrim_any {B : Nat} {A : Option Addr} {xs : List Nat} (c : Nat) (w : World) (h : RdU w B A xs) (hc : xs.length ≤ c) (hn : xs.length ≤ 1099511627776) (hA : A = none → c = 0) :
    Calls Tryz.prog 124 #[.slice A xs.length c] w fun e w' => TrimH A c xs e ∧ w = w' := by
  go_enter Tryz.func124, Tryz.ntmps124
  go_wp2
  go_loop [3] (fun i => ∃ n : Nat, n ≤ xs.length ∧ i = .int .i64 n ∧ (∀ j, n ≤ j → j < xs.length → xs.getD j 0 = 0)) (fun i => (intOf i).toNat)
  case atStart => exact ⟨xs.length, by omega, rfl, fun j h1 h2 => by omega⟩
  case round =>
    obtain ⟨n, hn1, rfl, hz⟩ := hrel
    replace hz := Lib.hid hz
    by_cases h0 : n = 0
    · subst h0
      cases A with
      | none =>
        obtain rfl := hA rfl
        go_wp2
        go_ret
        exact ⟨.of (Nat.zero_le _) hz.out (.inl rfl), rfl⟩
      | some a =>
        go_wp2
        go_ret
        exact ⟨.of (Nat.zero_le _) hz.out (.inl rfl), rfl⟩
    · obtain ⟨m, rfl⟩ : ∃ m, n = m + 1 := ⟨n - 1, by omega⟩
      obtain ⟨b, off, rfl, hb, hcell⟩ := h.at (i := m) (by omega)
      have hcm := hcell m (by omega)
      clear hcell h
      by_cases hx : xs.getD m 0 = 0
      · rw [hx] at hcm
        replace hx := Lib.hid hx
        go_wp2
        refine ⟨⟨m, by omega, rfl, fun j h1 h2 => ?_⟩, by simp [intOf]⟩
        rcases Nat.eq_or_lt_of_le h1 with rfl | h1
        · exact hx.out
        · exact hz.out j h1 h2
      · have hx0 : (((xs.getD m 0 : Nat) : Int) == 0) = false := by simpa using hx
        replace hx := Lib.hid hx
        generalize hxx : xs.getD m 0 = x at hcm hx0
        replace hxx := Lib.hid hxx
        go_wp2
        go_ret
        exact ⟨.of hn1 hz.out (.inr hx.out), rfl⟩
/-- Trim of what has no noughts at the end. -/
theorem rtrim_same {B : Nat} {A : Option Addr} {xs : List Nat} {N : Nat} (c : Nat) (w : World) (h : RdU w B A xs) (hc : xs.length ≤ c) (hn : xs.length ≤ 1099511627776) (hA : A = none → c = 0) (hx : NrmH xs N) :
    Calls Tryz.prog 124 #[.slice A xs.length c] w fun e w' => e = .returned (.slice A xs.length c) ∧ w = w' := by
  refine (rtrim_any c w h hc hn hA).mono ?_
  rintro e w' ⟨⟨zs, rfl, ⟨n, rfl⟩, ht, hv⟩, rfl⟩
  have : xs.take n = xs := canon_unique (b := 4294967296) (by omega) (dig_take hx.dig n) hx.dig ht hx.top (hv _)
  rw [this]
  exact ⟨rfl, rfl⟩
end Go.Proofs.YtncfbleeidjflaaGreatDoor
namespace Go.Proofs.YtncfbleeidjflaaGreatDoor
open Go.RowKit Go.Cal
theorem one_cell (w : World) (t : TypeId) (v : Value) (j : Nat) (u : Value) (hj : [v][j]? = some u) : (w.alloc (.cells #[v] t)).cell? ((⟨w.heap.size, 0, none⟩ : Addr).add j) = some u := by
  rcases j with _ | j
  · simp at hj
    subst hj
    simp [Addr.add_lit]
  · simp at hj
theorem two_cells (w : World) (t : TypeId) (v v2 : Value) (j : Nat) (u : Value) (hj : [v, v2][j]? = some u) : (w.alloc (.cells #[v, v2] t)).cell? ((⟨w.heap.size, 0, none⟩ : Addr).add j) = some u := by
  rcases j with _ | _ | j
  · simp at hj
    subst hj
    simp [Addr.add_lit]
  · simp at hj
    subst hj
    simp [Addr.add_lit]
  · simp at hj
/-- A slice in memory that was not there. -/
def New (w : World) (v : Value) : Prop := ∀ A n c, v = .slice A n c → ∀ a, A = some a → w.heap.size ≤ a.block
/-- A row that the call has made, read. -/
theorem rd_of_own {w : World} {base n : Nat} {v : Value} {xs : List Nat} (h : w.ownsRow base 22 1 v n (lU xs)) (hn : n = xs.length) :
    ∃ A c, v = .slice A xs.length c ∧ RdU w w.heap.size A xs ∧ xs.length ≤ c ∧ c ≤ maxLen ∧ (A = none → c = 0) ∧ (∀ a, A = some a → base ≤ a.block) := by
  subst hn
  obtain ⟨_, ⟨rfl, h1⟩ | ⟨g, cap, cur, rfl, hg, hw, hn, hm, hs, ht⟩⟩ := h
  · obtain rfl := List.eq_nil_of_length_eq_zero h1
    exact ⟨none, 0, rfl, .nil, Nat.le_refl _, by unfold maxLen; omega, fun _ => rfl, fun a e => by cases e⟩
  · have hlt := (Array.getElem?_eq_some_iff.1 hw).1
    refine ⟨_, cap, rfl, ⟨.inr ⟨g, 0, rfl, hlt⟩, fun b off e j hj => ?_⟩, hn, hm, fun e => (by cases e), fun a e => by cases e; exact hg⟩
    injection e with e
    injection e with e1 e2
    subst e1; subst e2
    have e3 : cur.toList[j]? = some (.int .u64 ((xs.getD j 0 : Nat) : Int)) := by
      rw [← lU_at xs j hj, ← ht, List.getElem?_take_of_lt (by omega)]
    simp [World.cell?, hw, ← Array.getElem?_toList, e3]
theorem lU_snoc (xs : List Nat) (x : Nat) : lU xs ++ [.int .u64 (x : Int)] = lU (xs ++ [x]) := by simp [lU]
theorem lU_snoc2 (xs : List Nat) (x y : Nat) : lU xs ++ [.int .u64 (x : Int), .int .u64 (y : Int)] = lU (xs ++ [x, y]) := by simp [lU]
/-- A call tells one number in half words. -/
def TellsH (w : World) (k N : Nat) (e : Ending) (w' : World) : Prop := ∃ v, e = .returned v ∧ pH v k N w' ∧ Below w.heap.size w w' ∧ New w v
/-- The end of a call that hands back what Trim makes of its own row. -/
theorem trim_own {w wr : World} {n k N : Nat} {v : Value} {xs : List Nat} (hown : wr.ownsRow w.heap.size 22 1 v n (lU xs)) (hn : n = xs.length) (hb : Below w.heap.size w wr) (hl : xs.length ≤ 1099511627776) (hd : Dig 4294967296 xs) (hv : vl 4294967296 xs = N) (hk : N < 4294967296 ^ k) :
    Calls Tryz.prog 124 #[v] wr (TellsH w k N) := by
  obtain ⟨A, c, rfl, hr, h1, h2, h3, h4⟩ := rd_of_own hown hn
  refine (rtrim_any c wr hr h1 hl h3).mono ?_
  rintro e w1 ⟨⟨zs, rfl, ⟨m, rfl⟩, ht, hv'⟩, rfl⟩
  have hz : NrmH (xs.take m) N := ⟨dig_take hd m, ht, (hv' _).trans hv⟩
  exact ⟨_, rfl, ⟨A, c, xs.take m, rfl, hr.take m, by rw [List.length_take]; omega, ⟨h2, h3⟩, hz.length_le hk, hz⟩, hb, fun A' n' c' e a ha => by cases e; exact h4 a ha⟩
set_option maxRecDepth 100000 in
set_option maxHeartbeats 2000000 in
theorem halves_any {v1 : Value} {k X : Nat} (w : World) (h1 : IsN w v1 k X) (b1 : k ≤ 1048576) : Calls Tryz.prog 51 #[v1] w (TellsH w (2 * k) X) := by
  have hX := h1.lt
  obtain ⟨A, c, xs, rfl, hr, hc, hl, d, hv⟩ := h1
  obtain ⟨i0, hi, hi0, hi1, hi2⟩ := info_parts info_u64
  replace hv := Lib.hid hv
  replace hX := Lib.hid hX
  replace d := Lib.hid d
  go_enter Tryz.func51, Tryz.ntmps51
  go_wp2
  go_loopg [3, 4] xs.length (fun k ov iv wr => ∃ i : Nat, iv = .int .i64 i ∧ i + k = xs.length ∧ wr.ownsRow w.heap.size 22 1 ov (2 * i) (lU (halves 4294967296 (xs.take i))) ∧ Below w.heap.size w wr)
  case atStart => exact ⟨0, rfl, by omega, by rw [List.take_zero]; exact World.ownsRow_lit w #[] 0 (Nat.le_refl _) (by unfold maxLen; omega) rfl, (Below.refl _ _).alloc (Nat.le_refl _) _⟩
  case round =>
    obtain ⟨i, rfl, hik, hown, hbw⟩ := hrel
    have hzw := hbw.size
    by_cases h0 : gk = 0
    · subst h0
      have hi' : i = xs.length := by omega
      subst hi'
      rw [List.take_length] at hown
      have hvv : vl 4294967296 (halves 4294967296 xs) = X := by rw [halves_val, ← hv.out]
      have ht := trim_own (k := 2 * k) hown (by rw [halves_length]) hbw (by rw [halves_length]; omega) (halves_dig (by omega) d.out) hvv (by rw [Nat.pow_mul]; exact hX.out)
      replace ht := Lib.hid ht
      clear hown hvv
      go_wp2_with fail
      refine ht.out.mono ?_
      rintro e w1 ⟨u, rfl, hu, hb⟩
      go_wp2
      go_ret
      exact ⟨u, rfl, hu, hb⟩
    · have hix : i < xs.length := by omega
      have hii : (i : Int) < (xs.length : Int) := by omega
      obtain ⟨b, off, rfl, hb, hcx⟩ := (hr.below hbw).at hix
      have hx0 := hcx i hix
      have hts := take_snoc xs i hix
      obtain ⟨x, hx⟩ : ∃ x, xs.getD i 0 = x := ⟨_, rfl⟩
      rw [hx] at hx0 hts
      replace hts := Lib.hid hts
      replace hx := Lib.hid hx
      clear hcx hr
      have hxm : (x : Int).tmod 4294967296 = ((x % 4294967296 : Nat) : Int) := by rw [Int.tmod_eq_emod_of_nonneg (by omega)]; omega
      have hxd : ((x : Int) / 4294967296) = ((x / 4294967296 : Nat) : Int) := by omega
      obtain ⟨lo, hlo⟩ : ∃ l, x % 4294967296 = l := ⟨_, rfl⟩
      obtain ⟨hx2, hhi⟩ : ∃ l, x / 4294967296 = l := ⟨_, rfl⟩
      rw [hlo] at hxm
      rw [hhi] at hxd
      replace hlo := Lib.hid hlo
      replace hhi := Lib.hid hhi
      go_wp2_with fail
      go_region_law (refine step_append_lies _ rfl (.tmp 12) (.tmp 23) 32 rfl w.heap.size 22 i0 (.int .u64 0) 1 8 under_u64s hi hi0 hi1 hi2 rfl (by decide) u3 (2 * i) (lU (halves 4294967296 (xs.take i))) (by simp [Act.eval]) (hown.drew.alloc _) ⟨wr.heap.size, 0, none⟩ 2 2 [.int .u64 lo, .int .u64 hx2] (by simp [Act.eval]) rfl (two_cells wr.drew 22 _ _) (fun u hu => by simp at hu; rcases hu with rfl | rfl <;> rfl) (by omega) (by unfold maxLen; omega) (by omega) (by simp; omega) _ rfl (fun g cap w' hown' hgr _ _ => ?_))
      all_goals
        have hh : lU (halves 4294967296 (xs.take i)) ++ [.int .u64 (lo : Int), .int .u64 (hx2 : Int)] = lU (halves 4294967296 (xs.take (i + 1))) := by rw [hts.out, halves_snoc, lU_snoc2, hlo.out, hhi.out]
        rw [hh] at hown'
        have hb2 := ((hbw.drew).alloc hzw (.cells #[.int .u64 (lo : Int), .int .u64 (hx2 : Int)] 22)).grown hgr (by simp; omega) (fun j hj => (hown.lt j hj).1)
        clear hh hown hgr
        go_wp2
        go_roundg (gk - 1)
        case measure => omega
        case rel => exact ⟨i + 1, by go_num, by omega, hown', hb2⟩
end Go.Proofs.YtncfbleeidjflaaGreatDoor
namespace Go.Proofs.YtncfbleeidjflaaGreatDoor
open Go.RowKit Go.Cal
set_option maxRecDepth 100000 in
set_option maxHeartbeats 2000000 in
theorem plus_any {v1 v2 : Value} {k1 k2 X Y : Nat} (k' : Nat) (w : World) (h1 : IsH w v1 k1 X) (h2 : IsH w v2 k2 Y) (b1 : k1 ≤ 1048576) (b2 : k2 ≤ 1048576) (hk : X + Y < 4294967296 ^ k') : Calls Tryz.prog 125 #[v1, v2] w (TellsH w k' (X + Y)) := by
  obtain ⟨A1, c1, xs, rfl, r1, hc1, hm1, hl1, hx⟩ := h1
  obtain ⟨A2, c2, ys, rfl, r2, hc2, hm2, hl2, hy⟩ := h2
  obtain ⟨i0, hi, hi0, hi1, hi2⟩ := info_parts info_u64
  replace hk := Lib.hid hk
  go_enter Tryz.func125, Tryz.ntmps125
  go_wp2
  obtain ⟨M, hMx, hMy, hMb⟩ : ∃ M, xs.length ≤ M ∧ ys.length ≤ M ∧ M ≤ 1048576 := ⟨max xs.length ys.length, by omega, by omega, by omega⟩
  go_loopg [5, 6, 7] (2 * (M + 1)) (fun k ov cv iv wr => ∃ (i c : Nat) (L : List Nat), iv = .int .i64 i ∧ cv = .int .u64 c ∧ i ≤ M + 1 ∧ (i = M + 1 → c = 0) ∧ k = 2 * (M + 1 - i) + c ∧ wr.ownsRow w.heap.size 22 1 ov i (lU L) ∧ Below w.heap.size w wr ∧ PlusRel 4294967296 xs ys L i c)
  case atStart => exact ⟨0, 0, [], rfl, rfl, by omega, by omega, by omega, World.ownsRow_lit w #[] 0 (Nat.le_refl _) (by unfold maxLen; omega) rfl, (Below.refl _ _).alloc (Nat.le_refl _) _, .start _ xs ys⟩
  case round =>
    obtain ⟨i, c, L, rfl, rfl, hib, hlast, hgk, hown, hbw, hR⟩ := hrel
    have hzw := hbw.size
    have hcar := hR.car
    have hg1 := get_any c1 i wr (r1.below hbw)
    have hg2 := get_any c2 i wr (r2.below hbw)
    obtain ⟨x, hxx⟩ : ∃ x, xs.getD i 0 = x := ⟨_, rfl⟩
    obtain ⟨y, hyy⟩ : ∃ x, ys.getD i 0 = x := ⟨_, rfl⟩
    have bx : x < 4294967296 := hxx ▸ dig_getD (by omega) hx.dig i
    have by' : y < 4294967296 := hyy ▸ dig_getD (by omega) hy.dig i
    rw [hxx] at hg1
    rw [hyy] at hg2
    by_cases hend : xs.length ≤ i ∧ ys.length ≤ i ∧ c = 0
    · obtain ⟨e1, e2, rfl⟩ := hend
      have hv : vl 4294967296 L = X + Y := by rw [hR.done e1 e2, hx.val, hy.val]
      have hLl := hR.len
      have ht := trim_own (k := k') hown hLl.symm hbw (by omega) hR.dig hv hk.out
      have n1 : ¬ (i : Int) < (xs.length : Int) := by omega
      have n2 : ¬ (i : Int) < (ys.length : Int) := by omega
      replace ht := Lib.hid ht
      clear hown hv hR hg1 hg2 hLl hxx hyy hgk hlast
      go_wp2_with fail
      refine ht.out.mono ?_
      rintro e w1 ⟨u, rfl, hu, hb⟩
      go_wp2
      go_ret
      exact ⟨u, rfl, hu, hb⟩
    · have hst := hR.step hxx hyy bx by'
      have hdis : i < xs.length ∨ (¬ i < xs.length ∧ i < ys.length) ∨ (¬ i < xs.length ∧ ¬ i < ys.length ∧ 0 < c) := by omega
      have hiM : i ≤ M := by
        rcases Nat.lt_or_ge i (M + 1) with h | h
        · omega
        · have := hlast (by omega)
          omega
      have hzero : i + 1 = M + 1 → x = 0 ∧ y = 0 := fun e => by
        rw [← hxx, ← hyy]
        simp [List.getD_eq_getElem?_getD, List.getElem?_eq_none (show xs.length ≤ i by omega), List.getElem?_eq_none (show ys.length ≤ i by omega)]
      obtain ⟨S, hS⟩ : ∃ S, x + y + c = S := ⟨_, rfl⟩
      have hSi : (x : Int) + (y : Int) + (c : Int) = (S : Int) := by omega
      have hSb : S < 8589934592 := by omega
      rw [hS] at hst
      obtain ⟨lo, hlo⟩ : ∃ l, S % 4294967296 = l := ⟨_, rfl⟩
      obtain ⟨c', hc'⟩ : ∃ l, S / 4294967296 = l := ⟨_, rfl⟩
      have hloi : (S : Int) % 4294967296 = (lo : Int) := by omega
      have hci : (S : Int) / 4294967296 = (c' : Int) := by omega
      rw [hlo, hc'] at hst
      have hlast' : i + 1 = M + 1 → c' = 0 := fun e => by have := hzero e; omega
      have hdec : 2 * (M + 1 - (i + 1)) + c' < gk := by have := hst.car; omega
      replace hS := Lib.hid hS
      replace hlo := Lib.hid hlo
      replace hc' := Lib.hid hc'
      replace hgk := Lib.hid hgk
      replace hdec := Lib.hid hdec
      replace hg1 := Lib.hid hg1
      replace hg2 := Lib.hid hg2
      replace hxx := Lib.hid hxx
      replace hyy := Lib.hid hyy
      replace hlast' := Lib.hid hlast'
      clear hlast hzero hend hR
      rcases hdis with d | ⟨d, d'⟩ | ⟨d, d', d''⟩
      all_goals
        go_wp2_with fail
        refine hg1.out.mono ?_
        rintro e w' ⟨rfl, rfl⟩
        go_wp2_with fail
        refine hg2.out.mono ?_
        rintro e w' ⟨rfl, rfl⟩
        go_wp2_with (at_builtin; refine wpList_append_own _ rfl _ _ 32 rfl w.heap.size 22 i0 (.int .u64 0) 1 8 under_u64s hi hi0 hi1 hi2 rfl (by decide) u5 i (lU L) rfl (hown.alloc _) ⟨wr.heap.size, 0, none⟩ 1 1 [.int .u64 lo] rfl rfl (one_cell wr 22 _) (fun u hu => by simp at hu; subst hu; rfl) (by unfold maxLen; omega) (by omega) (by simp; omega) ?_)
        intro v' w1 hown' hgr _
        rw [lU_snoc] at hown'
        have hb2 := (hbw.alloc hzw (.cells #[.int .u64 (lo : Int)] 22)).grown hgr (by simp; omega) (fun j hj => (hown.lt j hj).1)
        clear hown hgr
        go_wp2
        go_roundg (2 * (M + 1 - (i + 1)) + c')
        case measure => exact hdec.out
        case rel => exact ⟨i + 1, c', _, by go_num, rfl, by omega, hlast'.out, rfl, hown', hb2, hst⟩
set_option maxRecDepth 100000 in
set_option maxHeartbeats 2000000 in
theorem minus_any {v1 v2 : Value} {k1 k2 X Y : Nat} (w : World) (h1 : IsH w v1 k1 X) (h2 : IsH w v2 k2 Y) (b1 : k1 ≤ 1048576) (hle : Y ≤ X) : Calls Tryz.prog 132 #[v1, v2] w (TellsH w k1 (X - Y)) := by
  have hX := h1.lt
  obtain ⟨A1, c1, xs, rfl, r1, hc1, hm1, hl1, hx⟩ := h1
  obtain ⟨A2, c2, ys, rfl, r2, hc2, hm2, hl2, hy⟩ := h2
  obtain ⟨i0, hi, hi0, hi1, hi2⟩ := info_parts info_u64
  have hyx : ys.length ≤ xs.length := hy.length_le (Nat.lt_of_le_of_lt hle hx.lt)
  replace hX := Lib.hid hX
  go_enter Tryz.func132, Tryz.ntmps132
  go_wp2
  go_loopg [5, 6, 7] xs.length (fun k ov cv iv wr => ∃ (i c : Nat) (L : List Nat), iv = .int .i64 i ∧ cv = .int .u64 c ∧ i + k = xs.length ∧ wr.ownsRow w.heap.size 22 1 ov i (lU L) ∧ Below w.heap.size w wr ∧ MinusRel 4294967296 xs ys L i c)
  case atStart => exact ⟨0, 0, [], rfl, rfl, by omega, World.ownsRow_lit w #[] 0 (Nat.le_refl _) (by unfold maxLen; omega) rfl, (Below.refl _ _).alloc (Nat.le_refl _) _, .start _ xs ys⟩
  case round =>
    obtain ⟨i, c, L, rfl, rfl, hik, hown, hbw, hR⟩ := hrel
    have hzw := hbw.size
    have hcar := hR.car
    by_cases h0 : gk = 0
    · subst h0
      have hie : i = xs.length := by omega
      subst hie
      have hv : vl 4294967296 L = X - Y := by
        have := hR.done hyx (by rw [hx.val, hy.val]; exact hle)
        rw [this, hx.val, hy.val]
      have ht := trim_own (k := k1) hown hR.len.symm hbw (by rw [hR.len]; omega) hR.dig hv (by have := hX.out; omega)
      replace ht := Lib.hid ht
      clear hown hv hR hik
      go_wp2_with fail
      refine ht.out.mono ?_
      rintro e w1 ⟨u, rfl, hu, hb⟩
      go_wp2
      go_ret
      exact ⟨u, rfl, hu, hb⟩
    · have hii : (i : Int) < (xs.length : Int) := by omega
      have hg1 := get_any c1 i wr (r1.below hbw)
      have hg2 := get_any c2 i wr (r2.below hbw)
      obtain ⟨x, hxx⟩ : ∃ x, xs.getD i 0 = x := ⟨_, rfl⟩
      obtain ⟨y, hyy⟩ : ∃ x, ys.getD i 0 = x := ⟨_, rfl⟩
      have bx : x < 4294967296 := hxx ▸ dig_getD (by omega) hx.dig i
      have by' : y < 4294967296 := hyy ▸ dig_getD (by omega) hy.dig i
      rw [hxx] at hg1
      rw [hyy] at hg2
      have hst := hR.step hxx hyy bx by'
      obtain ⟨S, hS⟩ : ∃ S, x + 4294967296 - y - c = S := ⟨_, rfl⟩
      have hSi : (x : Int) + 4294967296 - (y : Int) - (c : Int) = (S : Int) := by omega
      have hSb : S < 8589934592 := by omega
      rw [hS] at hst
      obtain ⟨lo, hlo⟩ : ∃ l, S % 4294967296 = l := ⟨_, rfl⟩
      obtain ⟨q, hq⟩ : ∃ l, S / 4294967296 = l := ⟨_, rfl⟩
      obtain ⟨c', hc'⟩ : ∃ l, 1 - q = l := ⟨_, rfl⟩
      have hloi : (S : Int) % 4294967296 = (lo : Int) := by omega
      have hqi : (S : Int) / 4294967296 = (q : Int) := by omega
      have hci : 1 - (q : Int) = (c' : Int) := by omega
      have hq1 : q ≤ 1 := by omega
      rw [hlo, hq, hc'] at hst
      replace hS := Lib.hid hS
      replace hlo := Lib.hid hlo
      replace hq := Lib.hid hq
      replace hc' := Lib.hid hc'
      replace hg1 := Lib.hid hg1
      replace hg2 := Lib.hid hg2
      replace hxx := Lib.hid hxx
      replace hyy := Lib.hid hyy
      clear hR
      go_wp2_with fail
      refine hg1.out.mono ?_
      rintro e w' ⟨rfl, rfl⟩
      go_wp2_with fail
      refine hg2.out.mono ?_
      rintro e w' ⟨rfl, rfl⟩
      go_wp2_with (at_builtin; refine wpList_append_own _ rfl _ _ 32 rfl w.heap.size 22 i0 (.int .u64 0) 1 8 under_u64s hi hi0 hi1 hi2 rfl (by decide) u5 i (lU L) rfl (hown.alloc _) ⟨wr.heap.size, 0, none⟩ 1 1 [.int .u64 lo] rfl rfl (one_cell wr 22 _) (fun u hu => by simp at hu; subst hu; rfl) (by unfold maxLen; omega) (by omega) (by simp; omega) ?_)
      intro v' w1 hown' hgr _
      rw [lU_snoc] at hown'
      have hb2 := (hbw.alloc hzw (.cells #[.int .u64 (lo : Int)] 22)).grown hgr (by simp; omega) (fun j hj => (hown.lt j hj).1)
      clear hown hgr
      go_wp2
      go_roundg (gk - 1)
      case measure => omega
      case rel => exact ⟨i + 1, c', _, by go_num, rfl, by omega, hown', hb2, hst⟩
set_option maxRecDepth 100000 in
set_option maxHeartbeats 2000000 in
theorem rcmp_any {v1 v2 : Value} {k1 k2 X Y : Nat} (w : World) (h1 : IsH w v1 k1 X) (h2 : IsH w v2 k2 Y) (b1 : k1 ≤ 1048576) (b2 : k2 ≤ 1048576) :
    Calls Tryz.prog 127 #[v1, v2] w fun e w' => e = .returned (.int .i64 (cmpV (X : Int) (Y : Int))) ∧ w = w' := by
  obtain ⟨A1, c1, xs, rfl, r1, hc1, hm1, hl1, hx⟩ := h1
  obtain ⟨A2, c2, ys, rfl, r2, hc2, hm2, hl2, hy⟩ := h2
  obtain ⟨M, hMi, hMx, hMy, hMb⟩ : ∃ M : Nat, max (xs.length : Int) (ys.length : Int) = (M : Int) ∧ xs.length ≤ M ∧ ys.length ≤ M ∧ M ≤ 1048576 := ⟨max xs.length ys.length, by omega, by omega, by omega, by omega⟩
  go_enter Tryz.func127, Tryz.ntmps127
  go_wp2
  go_loopg [5] M (fun k iv wr => iv = .int .i64 k ∧ (∀ j, k ≤ j → xs.getD j 0 = ys.getD j 0) ∧ k ≤ M ∧ w = wr)
  case atStart => exact ⟨rfl, fun j hj => by simp [List.getD_eq_getElem?_getD, List.getElem?_eq_none (show xs.length ≤ j by omega), List.getElem?_eq_none (show ys.length ≤ j by omega)], Nat.le_refl _, rfl⟩
  case round =>
    obtain ⟨rfl, heq, hkM, rfl⟩ := hrel
    clear hMi
    by_cases h0 : gk = 0
    · subst h0
      have hv : cmpV (X : Int) (Y : Int) = 0 := cmpV_eq (by rw [← hx.val, ← hy.val, vl_ext (fun j => heq j (Nat.zero_le _))])
      replace hv := Lib.hid hv
      clear heq
      go_wp2
      go_ret
      exact ⟨by rw [hv.out]; rfl, rfl⟩
    · obtain ⟨m, rfl⟩ : ∃ m, gk = m + 1 := ⟨gk - 1, by omega⟩
      have hpos : (0 : Int) < ((m + 1 : Nat) : Int) := by omega
      have hg1 := get_any c1 m w r1
      have hg2 := get_any c2 m w r2
      obtain ⟨x, hxx⟩ : ∃ x, xs.getD m 0 = x := ⟨_, rfl⟩
      obtain ⟨y, hyy⟩ : ∃ x, ys.getD m 0 = x := ⟨_, rfl⟩
      rw [hxx] at hg1
      rw [hyy] at hg2
      replace hg1 := Lib.hid hg1
      replace hg2 := Lib.hid hg2
      rcases Nat.lt_trichotomy x y with h | h | h
      · have hv : cmpV (X : Int) (Y : Int) = -1 := cmpV_lt (by
          have := lex_lt (m := m) (by omega) hx.dig (fun j hj => heq j hj) (by rw [hxx, hyy]; exact h)
          rw [hx.val, hy.val] at this; omega)
        have hlt : (x : Int) < (y : Int) := by omega
        replace hv := Lib.hid hv
        replace heq := Lib.hid heq
        replace hxx := Lib.hid hxx
        replace hyy := Lib.hid hyy
        go_wp2_with fail
        refine hg1.out.mono ?_
        rintro e w' ⟨rfl, rfl⟩
        go_wp2_with fail
        refine hg2.out.mono ?_
        rintro e w' ⟨rfl, rfl⟩
        go_wp2
        go_ret
        exact ⟨by rw [hv.out]; rfl, rfl⟩
      · have heq' : ∀ j, m ≤ j → xs.getD j 0 = ys.getD j 0 := fun j hj => by
          rcases Nat.eq_or_lt_of_le hj with rfl | hj
          · rw [hxx, hyy, h]
          · exact heq j hj
        have hn1 : ¬ (x : Int) < (y : Int) := by omega
        have hn2 : ¬ (y : Int) < (x : Int) := by omega
        replace heq := Lib.hid heq
        replace heq' := Lib.hid heq'
        replace hxx := Lib.hid hxx
        replace hyy := Lib.hid hyy
        replace h := Lib.hid h
        go_wp2_with fail
        refine hg1.out.mono ?_
        rintro e w' ⟨rfl, rfl⟩
        go_wp2_with fail
        refine hg2.out.mono ?_
        rintro e w' ⟨rfl, rfl⟩
        go_wp2
        go_roundg m
        case measure => omega
        case rel => exact ⟨by go_num, heq'.out, by omega, rfl⟩
      · have hv : cmpV (X : Int) (Y : Int) = 1 := cmpV_gt (by
          have := lex_lt (m := m) (by omega) hy.dig (fun j hj => (heq j hj).symm) (by rw [hxx, hyy]; exact h)
          rw [hx.val, hy.val] at this; omega)
        have hlt : (y : Int) < (x : Int) := by omega
        have hn1 : ¬ (x : Int) < (y : Int) := by omega
        replace hv := Lib.hid hv
        replace heq := Lib.hid heq
        replace hxx := Lib.hid hxx
        replace hyy := Lib.hid hyy
        go_wp2_with fail
        refine hg1.out.mono ?_
        rintro e w' ⟨rfl, rfl⟩
        go_wp2_with fail
        refine hg2.out.mono ?_
        rintro e w' ⟨rfl, rfl⟩
        go_wp2
        go_ret
        exact ⟨by rw [hv.out]; rfl, rfl⟩
end Go.Proofs.YtncfbleeidjflaaGreatDoor
