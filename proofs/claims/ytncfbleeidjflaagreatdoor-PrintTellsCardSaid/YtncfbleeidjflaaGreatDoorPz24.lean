/- The document's posits: bits as a text, walked. Conditions: none. -/
/- The document's magnitudes: halves, powers of two, the forms with mantissas; walked. Conditions: none. -/
/- The document's magnitudes: posits' fields and numbers, numbers with mantissas; walked. Conditions: none. -/
import Derived.Test.YtncfbleeidjflaaGreatDoorPz19
import Derived.Test.YtncfbleeidjflaaGreatDoorPz02
import Derived.Test.YtncfbleeidjflaaGreatDoorPz06
namespace Go.Proofs.YtncfbleeidjflaaGreatDoor
open Go.RowKit Go.Cal
theorem bit_conv (w : World) (c : UInt8) (v : Value) (hv : v = .int .u8 (c.toNat : Nat)) (s : Nat) (hs : w.heap.size = s) : (convert 66 9 (.slice (some ⟨s, 0, none⟩) 1 1)).run Tryz.prog (w.alloc (.cells #[v] 5)) = .ok (.string (strL [c])) (w.alloc (.cells #[v] 5)) := by
  subst hv; subst hs
  exact conv_bytes (l := [c]) 1 (ownB_lit w w.heap.size [c] 0 0 #[.int .u8 (c.toNat : Nat)] rfl (Nat.le_refl _) (by unfold maxLen; simp) (.inr rfl)).rd
theorem key_half (key j : Nat) : key / 2 ^ j / 2 = key / 2 ^ (j + 1) := by rw [Nat.div_div_eq_div_mul, Nat.pow_succ]
set_option maxRecDepth 100000 in
set_option maxHeartbeats 2000000 in
theorem rbits5_any (n key : Nat) (hn : 2 ≤ n) (hn' : n ≤ 64) (h0 : 0 < key) (hk : key < 2 ^ n) (w : World) : Calls Tryz.prog 208 #[.int .i64 ((n : Int) + 1), .int .u64 (key : Nat)] w fun e w' => e = .returned (.tuple #[.string (strL (bitS n key)), .bool true]) ∧ Below w.heap.size w w' := by
  have hk64 : key < 18446744073709551616 := Nat.lt_of_lt_of_le hk (Nat.le_trans (Nat.pow_le_pow_right (by decide) hn') (by decide))
  have q1 : ¬ (n : Int) + 1 < 3 := by omega
  have q2 : ¬ (65 : Int) < (n : Int) + 1 := by omega
  have q3 : ¬ (key : Int) = 0 := by omega
  have q4 : ¬ key = 0 := by omega
  go_enter Tryz.func208, Tryz.ntmps208
  go_wp2_with fail
  go_loopg [1, 6, 7] n (fun g kv sv iv wr => ∃ j : Nat, kv = .int .u64 ((key / 2 ^ j : Nat) : Int) ∧ sv = .string (strL (bitS j key)) ∧ iv = .int .i64 ((j : Int) + 1) ∧ j + g = n ∧ Below w.heap.size w wr)
  case atStart => exact ⟨0, by simp, rfl, rfl, by omega, Below.refl _ _⟩
  case round =>
    obtain ⟨j, rfl, rfl, rfl, hjg, hB⟩ := hrel
    by_cases hj : j < n
    · obtain ⟨q, hq⟩ : ∃ q, key / 2 ^ j = q := ⟨_, rfl⟩
      have hq2 : key / 2 ^ (j + 1) = q / 2 := by rw [← hq, key_half]
      have hqb : q < 18446744073709551616 := by rw [← hq]; exact Nat.lt_of_le_of_lt (Nat.div_le_self _ _) hk64
      obtain ⟨b, hb⟩ : ∃ b, q % 2 = b := ⟨_, rfl⟩
      have hb2 : b < 2 := by omega
      obtain ⟨c, hc⟩ : ∃ c, UInt8.ofNat (48 + b) = c := ⟨_, rfl⟩
      have hcn : (c.toNat : Int) = 48 + (b : Int) := by rw [← hc, bit_byte b hb2]; omega
      have hS : bitS (j + 1) key = c :: bitS j key := by rw [bitS, hq, hb, hc]
      have hcat : strL [c] ++ strL (bitS j key) = strL (bitS (j + 1) key) := by rw [hS]; exact strL_app [c] _
      have hbi : (q : Int) % 2 = (b : Int) := by omega
      have hz1 : (strL [c]).size = 1 := strL_size _
      have hz2 : (strL (bitS j key)).size = j := by rw [strL_size, bitS_len]
      have hz3 : ¬ 9223372036854775807 < 1 + j := by omega
      have hw8 : IntKind.u8.wrap (48 + (b : Int)) = 48 + (b : Int) := by rcases (show b = 0 ∨ b = 1 by omega) with rfl | rfl <;> rfl
      have hcv := bit_conv wr c (.int .u8 (48 + (b : Int))) (by rw [← hcn]) _ rfl
      have hB2 := hB.trans (((Below.refl wr.heap.size wr).alloc (Nat.le_refl _) (.cells #[.int .u8 (48 + (b : Int))] 5)).mono hB.size)
      rw [hq]
      have hl : ((j : Int) + 1) < (n : Int) + 1 := by omega
      replace hS := Lib.hid hS
      clear hc
      go_wp2_with fail
      go_roundg (gk - 1)
      case measure => omega
      case rel => exact ⟨j + 1, by rw [hq2]; simp, rfl, by simp, by omega, hB2⟩
    · have hjn : j = n := by omega
      subst hjn
      have hz : key / 2 ^ j = 0 := Nat.div_eq_of_lt hk
      rw [hz]
      have hl : ¬ ((j : Int) + 1) < (j : Int) + 1 := by omega
      go_wp2
      go_ret2
      exact ⟨rfl, hB⟩
theorem bitN_lt : ∀ (l : List UInt8) (a k : Nat), (∀ c ∈ l, c = 48 ∨ c = 49) → a < 2 ^ k → bitN l a < 2 ^ (k + l.length)
  | [], a, k, _, ha => by simpa [bitN] using ha
  | c :: r, a, k, hc, ha => by
    have h1 : c.toNat - 48 < 2 := by rcases hc c (by simp) with rfl | rfl <;> decide
    have h2 : 2 * a + (c.toNat - 48) < 2 ^ (k + 1) := by rw [Nat.pow_succ]; omega
    have := bitN_lt r _ (k + 1) (fun x hx => hc x (by simp [hx])) h2
    rw [bitN, List.length_cons, show k + (r.length + 1) = k + 1 + r.length by omega]
    exact this
set_option maxRecDepth 100000 in
set_option maxHeartbeats 2000000 in
theorem rnumb5_any (l : List UInt8) (hl : l.length ≤ 64) (hd : ∀ c ∈ l, c = 48 ∨ c = 49) (w : World) : Calls Tryz.prog 209 #[.string (strL l)] w fun e w' => e = .returned (.int .u64 ((bitN l 0 : Nat) : Int)) ∧ w = w' := by
  obtain ⟨n, hn⟩ : ∃ n, l.length = n := ⟨_, rfl⟩
  have hsz := strL_size l
  rw [hn] at hsz hl
  go_enter Tryz.func209, Tryz.ntmps209
  go_wp2_with fail
  go_loopg [3, 4] n (fun g nv iv wr => ∃ j : Nat, nv = .int .u64 ((bitN (l.take j) 0 : Nat) : Int) ∧ iv = .int .i64 (j : Nat) ∧ j + g = n ∧ wr = w)
  case atStart => exact ⟨0, rfl, rfl, by omega, rfl⟩
  case round =>
    obtain ⟨j, rfl, rfl, hjg, rfl⟩ := hrel
    by_cases hj : j < n
    · obtain ⟨c, hc⟩ : ∃ c, l.getD j 0 = c := ⟨_, rfl⟩
      have hcm : c = 48 ∨ c = 49 := hd c (by rw [← hc, List.getD_eq_getElem?_getD, List.getElem?_eq_getElem (by omega)]; exact List.getElem_mem _)
      have hg : ∀ h : j < (strL l).size, (strL l)[j] = c := fun h => by rw [strL_get, hc]
      obtain ⟨b, hb, hcb⟩ : ∃ b : Nat, b < 2 ∧ c.toNat = 48 + b := by
        rcases hcm with rfl | rfl
        · exact ⟨0, by decide⟩
        · exact ⟨1, by decide⟩
      have htk : l.take (j + 1) = l.take j ++ [c] := by rw [List.take_succ_eq_append_getElem (by omega), ← hc]; simp [List.getD_eq_getElem?_getD, show j < l.length by omega]
      have hN : bitN (l.take (j + 1)) 0 = 2 * bitN (l.take j) 0 + b := by rw [htk, bitN_snoc, hcb]; omega
      have hlt := bitN_lt (l.take (j + 1)) 0 0 (fun x hx => hd x (List.mem_of_mem_take hx)) (by decide)
      have hlt2 : bitN (l.take (j + 1)) 0 < 18446744073709551616 := Nat.lt_of_lt_of_le hlt (Nat.le_trans (Nat.pow_le_pow_right (by decide) (by simp; omega)) (by decide : 2 ^ 64 ≤ 18446744073709551616))
      obtain ⟨N, hNd⟩ : ∃ N, bitN (l.take j) 0 = N := ⟨_, rfl⟩
      rw [hNd] at hN ⊢
      rw [hN] at hlt2
      have hl1 : (j : Int) < (n : Int) := by omega
      have hw8 : IntKind.u8.wrap (((48 + b : Nat) : Int) - 48) = (b : Int) := by rcases (show b = 0 ∨ b = 1 by omega) with rfl | rfl <;> rfl
      have hw9 : IntKind.u8.wrap (48 + (b : Int) - 48) = (b : Int) := by rw [show 48 + (b : Int) - 48 = (b : Int) by omega]; rcases (show b = 0 ∨ b = 1 by omega) with rfl | rfl <;> rfl
      have hw7 : (48 : Int) + (b : Int) - 48 = (b : Int) := by omega
      replace hN := Lib.hid hN
      clear hc hcm htk hlt
      go_wp2_with fail
      go_roundg (gk - 1)
      case measure => omega
      case rel => exact ⟨j + 1, by rw [hN.out]; simp, by simp, by omega, rfl⟩
    · have hjn : j = n := by omega
      subst hjn
      rw [List.take_of_length_le (by omega)]
      have hl1 : ¬ (j : Int) < (j : Int) := by omega
      go_wp2
      go_ret
      exact ⟨rfl, rfl⟩
end Go.Proofs.YtncfbleeidjflaaGreatDoor
namespace Go.Proofs.YtncfbleeidjflaaGreatDoor
open Go.RowKit Go.Cal
set_option maxRecDepth 100000 in
set_option maxHeartbeats 2000000 in
theorem rodd7_any (m : Nat) (e : Int) (hm : m < 18446744073709551616) (he : -100000 ≤ e ∧ e ≤ 100000) (w : World) : Calls Tryz.prog 158 #[.int .u64 (m : Nat), .int .i64 e] w fun x w' => x = .returned (.tuple #[.int .u64 ((oddP 64 m e).1 : Nat), .int .i64 (oddP 64 m e).2]) ∧ w = w' := by
  rcases Nat.eq_zero_or_pos m with rfl | h0
  · go_enter Tryz.func158, Tryz.ntmps158
    go_wp2
    go_ret2
    exact ⟨rfl, rfl⟩
  · have hT : tzN 64 m ≤ 64 := tz_le
    have hend := tz_end (f := 64) h0 (by simpa using hm)
    have hgo := fun t (h : t < tzN 64 m) => (tz_go h).1
    obtain ⟨T, hTd⟩ : ∃ T, tzN 64 m = T := ⟨_, rfl⟩
    rw [hTd] at hT hend hgo
    have hP : oddP 64 m e = (m / 2 ^ T, e + T) := by unfold oddP; rw [if_neg (by omega), hTd]
    rw [hP]
    have hm0 : ((m : Int) == 0) = false := by simp; omega
    have hm1 : ¬ (m : Int) = 0 := by omega
    have hm2 : ¬ m = 0 := by omega
    clear hTd hP
    go_enter Tryz.func158, Tryz.ntmps158
    go_wp2_with fail
    go_loopg [0, 1] T (fun g mv ev wr => ∃ t : Nat, mv = .int .u64 ((m / 2 ^ t : Nat) : Int) ∧ ev = .int .i64 (e + t) ∧ t + g = T ∧ wr = w)
    case atStart => exact ⟨0, by simp, by simp, by omega, rfl⟩
    case round =>
      obtain ⟨t, rfl, rfl, htg, rfl⟩ := hrel
      by_cases ht : t < T
      · have h2 := hgo t ht
        obtain ⟨q, hq⟩ : ∃ q, m / 2 ^ t = q := ⟨_, rfl⟩
        have hq2 : m / 2 ^ (t + 1) = q / 2 := by rw [← hq, key_half]
        have hqb : q < 18446744073709551616 := by rw [← hq]; exact Nat.lt_of_le_of_lt (Nat.div_le_self _ _) hm
        rw [hq] at h2 ⊢
        have h2i : (q : Int) % 2 = 0 := by omega
        go_wp2_with fail
        go_roundg (gk - 1)
        case measure => omega
        case rel => exact ⟨t + 1, by rw [hq2]; simp, by simp; omega, by omega, rfl⟩
      · have hTt : t = T := by omega
        subst hTt
        obtain ⟨q, hq⟩ : ∃ q, m / 2 ^ t = q := ⟨_, rfl⟩
        have hqb : q < 18446744073709551616 := by rw [← hq]; exact Nat.lt_of_le_of_lt (Nat.div_le_self _ _) hm
        rw [hq] at hend ⊢
        have h2i : (q : Int) % 2 = 1 := by omega
        go_wp2
        go_ret2
        exact ⟨by simp [hq], rfl⟩
set_option maxRecDepth 100000 in
set_option maxHeartbeats 2000000 in
theorem rpow6_any (n : Nat) (hn : n ≤ 60) (w : World) : Calls Tryz.prog 189 #[.int .i64 (n : Nat)] w fun x w' => x = .returned (.int .u64 ((2 ^ n : Nat) : Int)) ∧ w = w' := by
  go_enter Tryz.func189, Tryz.ntmps189
  go_wp2_with fail
  go_loopg [3, 4] n (fun g xv iv wr => ∃ t : Nat, xv = .int .u64 ((2 ^ t : Nat) : Int) ∧ iv = .int .i64 (t : Nat) ∧ t + g = n ∧ wr = w)
  case atStart => exact ⟨0, by simp, rfl, by omega, rfl⟩
  case round =>
    obtain ⟨t, rfl, rfl, htg, rfl⟩ := hrel
    by_cases ht : t < n
    · obtain ⟨q, hq⟩ : ∃ q, 2 ^ t = q := ⟨_, rfl⟩
      have hq2 : 2 ^ (t + 1) = q + q := by rw [Nat.pow_succ, hq]; omega
      have hqb : q ≤ 1152921504606846976 := by rw [← hq]; exact Nat.le_trans (Nat.pow_le_pow_right (by decide) (show t ≤ 60 by omega)) (by decide)
      rw [hq]
      have hl : (t : Int) < (n : Int) := by omega
      go_wp2_with fail
      go_roundg (gk - 1)
      case measure => omega
      case rel => exact ⟨t + 1, by rw [hq2]; simp, by simp, by omega, rfl⟩
    · have htn : t = n := by omega
      subst htn
      have hl : ¬ (t : Int) < (t : Int) := by omega
      obtain ⟨q, hq⟩ : ∃ q, 2 ^ t = q := ⟨_, rfl⟩
      rw [hq]
      go_wp2
      go_ret
      exact ⟨rfl, rfl⟩
set_option maxRecDepth 100000 in
set_option maxHeartbeats 2000000 in
theorem rsplit6_any (man key : Nat) (hn : man ≤ 60) (hk : key < 18446744073709551616) (w : World) : Calls Tryz.prog 188 #[.int .i64 (man : Nat), .int .u64 (key : Nat)] w fun x w' => x = .returned (.tuple #[.int .u64 ((key / 2 ^ man : Nat) : Int), .int .u64 ((key % 2 ^ man : Nat) : Int)]) ∧ Below w.heap.size w w' := by
  have hp := Lib.hid (rpow6_any man hn w)
  have hpos := Nat.two_pow_pos man
  obtain ⟨x, hx⟩ : ∃ x, 2 ^ man = x := ⟨_, rfl⟩
  rw [hx] at hp hpos ⊢
  have hx0 : ((x : Int) == 0) = false := by simp; omega
  have hx1 : ¬ (x : Int) = 0 := by omega
  have hx2 : ¬ x = 0 := by omega
  clear hx
  have hdl := Nat.div_le_self key x
  have hdv : (key : Int) / (x : Int) = ((key / x : Nat) : Int) := by simp
  have hdm : (key : Int) % (x : Int) = ((key % x : Nat) : Int) := by simp
  have hml : key % x ≤ key := Nat.mod_le _ _
  obtain ⟨y, hy⟩ : ∃ y, key / x = y := ⟨_, rfl⟩
  obtain ⟨z, hz⟩ : ∃ z, key % x = z := ⟨_, rfl⟩
  rw [hy] at hdl hdv ⊢
  rw [hz] at hml hdm ⊢
  go_enter Tryz.func188, Tryz.ntmps188
  go_wp2_with fail
  refine hp.out.mono ?_
  rintro e w1 ⟨rfl, rfl⟩
  go_wp2_with fail
  go_quiet (fail)
  go_wp2
  go_ret2
  exact ⟨by simp [← hz], ⟨rfl, rfl, rfl, Nat.le_refl _, fun _ _ => rfl⟩⟩
end Go.Proofs.YtncfbleeidjflaaGreatDoor
namespace Go.Proofs.YtncfbleeidjflaaGreatDoor
open Go.RowKit Go.Cal
theorem strL_extractR (S : List UInt8) (a b : Nat) : (strL S).extract a b = strL ((S.drop a).take (b - a)) := by
  unfold strL
  refine ByteArray.ext ?_
  rw [ByteArray.data_extract]
  refine Array.toList_inj.1 ?_
  rw [Array.toList_extract]
theorem bitS_bits : ∀ (n key : Nat), ∀ c ∈ bitS n key, c = 48 ∨ c = 49
  | 0, _, c, h => by simp [bitS] at h
  | n + 1, key, c, h => by
    rw [bitS] at h
    rcases List.mem_cons.1 h with rfl | h
    · rcases (show key / 2 ^ n % 2 = 0 ∨ key / 2 ^ n % 2 = 1 by omega) with h | h <;> rw [h]
      · exact .inl rfl
      · exact .inr rfl
    · exact bitS_bits n key c h
theorem fields_size : (Tryz.prog.info? 228).map (·.size) = some 4 := by kernel_rfl
set_option maxRecDepth 100000 in
set_option maxHeartbeats 4000000 in
theorem rsplit5_go (n key R L : Nat) (rg : Int) (hn : 2 ≤ n) (hn' : n ≤ 64) (h0 : 0 < key) (hk : key < 2 ^ n) (hrun : RunOf (bitS n key) R) (h1R : 1 ≤ R) (hL : L = n - R - 1)
    (hf : ((bitS n key).getD 0 0 = 48 ∧ rg = -(R : Int)) ∨ ((bitS n key).getD 0 0 = 49 ∧ rg = (R : Int) - 1)) (w : World) :
    Calls Tryz.prog 187 #[.int .i64 ((n : Int) + 1), .int .u64 (key : Nat)] w fun e w' => e = .returned (.tuple #[.agg #[.int .i64 rg, .int .i64 (poE L (key % 2 ^ L) : Nat), .int .u64 (key % 2 ^ L % 2 ^ (L - 2) : Nat), .int .i64 (L - 2 : Nat)], .bool true]) ∧ Below w.heap.size w w' := by
  have hbs := Lib.hid fun w => rbits5_any n key hn hn' h0 hk w
  have hdr : ∀ k, k ≤ n → (bitS n key).drop k = bitS (n - k) key := fun k h => bitS_drop n key k h
  obtain ⟨s, hs⟩ : ∃ s, bitS n key = s := ⟨_, rfl⟩
  have hlen : s.length = n := by rw [← hs, bitS_len]
  rw [hs] at hbs hrun hf hdr
  have hsz := strL_size s
  rw [hlen] at hsz
  obtain ⟨r1, r2, r3⟩ := hrun
  rw [hlen] at r1 r3
  obtain ⟨c0, hc0⟩ : ∃ c, s.getD 0 0 = c := ⟨_, rfl⟩
  rw [hc0] at r2 r3 hf
  have hg0 : ∀ h : 0 < (strL s).size, (strL s)[0] = c0 := fun h => by rw [strL_get, hc0]
  have hsl : R + 1 < n → (strL s).extract (R + 1) n = strL (bitS L key) := fun h => by
    rw [strL_extractR, hdr (R + 1) (by omega), List.take_of_length_le (by rw [bitS_len]; omega), hL, show n - (R + 1) = n - R - 1 by omega]
  have hl0 : ¬ R + 1 < n → L = 0 := fun h => by omega
  have hcat : strL (bitS L key) ++ (⟨#[48, 48]⟩ : ByteArray) = strL (bitS L key ++ [48, 48]) := strL_app _ [48, 48]
  have hcz : (strL (bitS L key ++ [48, 48])).size = L + 2 := by rw [strL_size, List.length_append, bitS_len]; rfl
  have hrz : (strL (bitS L key)).size = L := by rw [strL_size, bitS_len]
  have he2 : (strL (bitS L key ++ [48, 48])).extract 0 2 = strL ((bitS L key ++ [48, 48]).take 2) := by rw [strL_extractR, List.drop_zero]
  have hd2 : (strL (bitS L key)).extract 2 L = strL ((bitS L key).drop 2) := by rw [strL_extractR, List.take_of_length_le (by rw [List.length_drop, bitS_len]; omega)]
  have hbb := bitS_bits L key
  have hnb := Lib.hid fun w => rnumb5_any ((bitS L key ++ [48, 48]).take 2) (by rw [List.length_take]; omega) (fun c hc => by
    have h1 := List.mem_of_mem_take hc
    rcases List.mem_append.1 h1 with h2 | h2
    · exact hbb c h2
    · left; simpa using h2) w
  have hnf := Lib.hid fun w => rnumb5_any ((bitS L key).drop 2) (by rw [List.length_drop, bitS_len]; omega) (fun c hc => hbb c (List.mem_of_mem_drop hc)) w
  rw [exp_text] at hnb
  have hfr : 2 ≤ L → bitN ((bitS L key).drop 2) 0 = key % 2 ^ L % 2 ^ (L - 2) := frac_text
  obtain ⟨X, hX⟩ : ∃ X, poE L (key % 2 ^ L) = X := ⟨_, rfl⟩
  have hX4 : X < 4 := by rw [← hX]; exact poE_lt (Nat.mod_lt _ (Nat.two_pow_pos _))
  obtain ⟨Y, hY⟩ : ∃ Y, key % 2 ^ L % 2 ^ (L - 2) = Y := ⟨_, rfl⟩
  have hY0 : L ≤ 2 → Y = 0 := fun h => by rw [← hY, show L - 2 = 0 by omega, Nat.pow_zero, Nat.mod_one]
  rw [hY] at hfr ⊢
  rw [hX] at hnb ⊢
  obtain ⟨S2, hS2⟩ : ∃ S2, strL (bitS L key) = S2 := ⟨_, rfl⟩
  obtain ⟨S3, hS3⟩ : ∃ S3, strL (bitS L key ++ [48, 48]) = S3 := ⟨_, rfl⟩
  obtain ⟨S4, hS4⟩ : ∃ S4, strL ((bitS L key ++ [48, 48]).take 2) = S4 := ⟨_, rfl⟩
  obtain ⟨S5, hS5⟩ : ∃ S5, strL ((bitS L key).drop 2) = S5 := ⟨_, rfl⟩
  have hS20 : L = 0 → S2 = ⟨#[]⟩ := fun h => by rw [← hS2, h]; rfl
  rw [hS3] at hcat hcz he2
  rw [hS2] at hcat hsl hrz hd2
  rw [hS4] at he2 hnb
  rw [hS5] at hd2 hnf
  have hRn : (R : Int) ≤ (n : Int) := by omega
  have hL64 : L ≤ 64 := by omega
  have hR64 : R ≤ 64 := by omega
  clear hX hY hbb hS2 hS3 hS4 hS5 hdr hs hk h0
  go_enter Tryz.func187, Tryz.ntmps187
  go_wp2_with fail
  refine (hbs.out _).mono ?_
  rintro e w1 ⟨rfl, hb1⟩
  have hz := hb1.size
  simp at hz
  have hr0 := pBlk_st _ _ _ _ _ (pBlk_made w #[.int .i64 0, .int .i64 0, .int .u64 0, .int .i64 0] 228) hb1
  have hB1 := ((Below.refl w.heap.size w).alloc (Nat.le_refl _) (.cells #[.int .i64 0, .int .i64 0, .int .u64 0, .int .i64 0] 228)).trans (hb1.mono (by simp))
  clear hbs hb1
  go_wp2_with fail
  go_loopg [8] R (fun g rv wr => ∃ i j : Nat, rv = .int .i64 (i : Nat) ∧ i + g = R ∧ wr = w1.drewN j)
  case atStart => exact ⟨0, 0, rfl, by omega, rfl⟩
  case round =>
    obtain ⟨i, j, rfl, hig, hwr⟩ := hrel
    by_cases hi : i < R
    · have hin : (i : Int) < (n : Int) := by omega
      have hinn : i < n := by omega
      have hgi : ∀ h : i < (strL s).size, (strL s)[i] = c0 := fun h => by rw [strL_get, r2 i hi]
      replace hwr := Lib.hid hwr
      go_wp2_with fail
      go_quiet (fail)
      have hw2 : wr.drewN nq = w1.drewN (j + nq) := by rw [hwr.out, World.drewN_drewN]
      go_wp2
      go_roundg (gk - 1)
      case measure => omega
      case rel => exact ⟨i + 1, j + nq, by simp, by omega, rfl⟩
    · have hiR : i = R := by omega
      subst hiR
      have hcase : (i < n ∧ (i : Int) < (n : Int) ∧ ∃ ci : UInt8, (∀ h : i < (strL s).size, (strL s)[i] = ci) ∧ ¬ ci.toNat = c0.toNat) ∨ (¬ (i : Int) < (n : Int) ∧ i = n) := by
        by_cases hin : i < n
        · refine .inl ⟨hin, by omega, s.getD i 0, fun h => by rw [strL_get], fun e => r3 hin (UInt8.toNat_inj.1 e)⟩
        · exact .inr ⟨by omega, by omega⟩
      replace hwr := Lib.hid hwr
      rcases hcase with ⟨hin, hinI, ci, hgi, hne⟩ | ⟨hinI, hin⟩
      · have hneI : ((ci.toNat : Int) == (c0.toNat : Int)) = false := by simp; omega
        go_wp2_with fail
        go_quiet (fail)
        have hB2 : Below w.heap.size w (wr.drewN nq) := by
          rw [hwr.out, World.drewN_drewN]
          exact hB1.trans ⟨rfl, rfl, rfl, Nat.le_refl _, fun _ _ => rfl⟩
        have hr2 : pBlk w.heap.size #[.int .i64 0, .int .i64 0, .int .u64 0, .int .i64 0] 228 (wr.drewN nq) := by
          rw [hwr.out, World.drewN_drewN]
          exact hr0
        obtain ⟨W2, hW2⟩ : ∃ W2, wr.drewN nq = W2 := ⟨_, rfl⟩
        rw [hW2] at hB2 hr2 ⊢
        clear hW2 hgi hwr hne
        by_cases hR1 : i + 1 < n
        · have hR1I : (i : Int) + 1 < (n : Int) := by omega
          have hex := hsl hR1
          clear hS20
          rcases hf with ⟨rfl, rfl⟩ | ⟨rfl, rfl⟩
          · 
            go_wp2_with fail
            clear hneI
            refine (hnb.out _).mono ?_
            rintro e w3 ⟨rfl, rfl⟩
            clear hsl hl0 hex hcat he2 hcz r2 r3 hc0 hg0 hsz h1R r1 hRn hr0 hB1 hin hinI hR1 hR1I hL hlen
            have zl := hr2.lt
            have hzz := hB2.size
            by_cases hL2 : 2 < L
            · have hL2I : (2 : Int) < (L : Int) := by omega
              have hfr2 := hfr (by omega)
              rw [hfr2] at hnf
              clear hfr hY0 hfr2
              go_wp2_with fail
              refine (hnf.out _).mono ?_
              rintro e w3 ⟨rfl, rfl⟩
              have hLw : (L : Int) - 2 = ((L - 2 : Nat) : Int) := by omega
              have hLb : L - 2 ≤ 62 := by omega
              have hr4 := pBlk_st _ _ _ _ _ hr2 ((Below.refl W2.heap.size W2).alloc (Nat.le_refl _) (.cells #[.int .i64 (-(i : Int)), .int .i64 (X : Nat), .int .u64 (Y : Nat), .int .i64 ((L - 2 : Nat) : Int)] 228))
              have hB4 := hB2.trans (((Below.refl W2.heap.size W2).alloc (Nat.le_refl _) (.cells #[.int .i64 (-(i : Int)), .int .i64 (X : Nat), .int .u64 (Y : Nat), .int .i64 ((L - 2 : Nat) : Int)] 228)).mono hB2.size)
              go_wp2_with (first | ((with_reducible show wpList _ _ _ (Oper.mk _ (Op.store 228 _ _) _ _ _ _ :: _) _ _); refine wpList_store_whole _ rfl 228 _ _ rfl w.heap.size #[.int .i64 (-(i : Int)), .int .i64 (X : Nat), .int .u64 (Y : Nat), .int .i64 ((L - 2 : Nat) : Int)] #[.int .i64 0, .int .i64 0, .int .u64 0, .int .i64 0] 228 rfl rfl hr4 fields_size rfl (by simp [Value.oneCell']) ?_; intro w3 hp3 hb3 hz3))
              replace hp3 : pBlk w.heap.size #[.int .i64 (-(i : Int)), .int .i64 (X : Nat), .int .u64 (Y : Nat), .int .i64 ((L - 2 : Nat) : Int)] 228 w3 := hp3
              have y0 : w3.cell? ⟨w.heap.size, 0, none⟩ = some (.int .i64 (-(i : Int))) := hp3.cell 0 _ rfl
              have y1 : w3.cell? ⟨w.heap.size, 1, none⟩ = some (.int .i64 (X : Nat)) := hp3.cell 1 _ rfl
              have y2 : w3.cell? ⟨w.heap.size, 2, none⟩ = some (.int .u64 (((Y : Nat) : Int))) := hp3.cell 2 _ rfl
              have y3 : w3.cell? ⟨w.heap.size, 3, none⟩ = some (.int .i64 (((L - 2 : Nat) : Int))) := hp3.cell 3 _ rfl
              refine bodyPost_ret (v := .tuple #[.agg #[.int .i64 (-(i : Int)), .int .i64 (X : Nat), .int .u64 (Y : Nat), .int .i64 ((L - 2 : Nat) : Int)], .bool true]) (by simp [results, Tryz.results187, go_sem, y0, y1, y2, y3]) rfl ⟨?_, hB4.trans hb3⟩
              rfl
            · have hL2I : ¬ (2 : Int) < (L : Int) := by omega
              have hY00 := hY0 (by omega)
              clear hfr hY0 hnf hd2
              have hLw : L - 2 = 0 := by omega
              have hr4 := pBlk_st _ _ _ _ _ hr2 ((Below.refl W2.heap.size W2).alloc (Nat.le_refl _) (.cells #[.int .i64 (-(i : Int)), .int .i64 (X : Nat), .int .u64 0, .int .i64 0] 228))
              have hB4 := hB2.trans (((Below.refl W2.heap.size W2).alloc (Nat.le_refl _) (.cells #[.int .i64 (-(i : Int)), .int .i64 (X : Nat), .int .u64 0, .int .i64 0] 228)).mono hB2.size)
              go_wp2_with (first | ((with_reducible show wpList _ _ _ (Oper.mk _ (Op.store 228 _ _) _ _ _ _ :: _) _ _); refine wpList_store_whole _ rfl 228 _ _ rfl w.heap.size #[.int .i64 (-(i : Int)), .int .i64 (X : Nat), .int .u64 0, .int .i64 0] #[.int .i64 0, .int .i64 0, .int .u64 0, .int .i64 0] 228 rfl rfl hr4 fields_size rfl (by simp [Value.oneCell']) ?_; intro w3 hp3 hb3 hz3))
              replace hp3 : pBlk w.heap.size #[.int .i64 (-(i : Int)), .int .i64 (X : Nat), .int .u64 0, .int .i64 0] 228 w3 := hp3
              have y0 : w3.cell? ⟨w.heap.size, 0, none⟩ = some (.int .i64 (-(i : Int))) := hp3.cell 0 _ rfl
              have y1 : w3.cell? ⟨w.heap.size, 1, none⟩ = some (.int .i64 (X : Nat)) := hp3.cell 1 _ rfl
              have y2 : w3.cell? ⟨w.heap.size, 2, none⟩ = some (.int .u64 ((0 : Int))) := hp3.cell 2 _ rfl
              have y3 : w3.cell? ⟨w.heap.size, 3, none⟩ = some (.int .i64 ((0 : Int))) := hp3.cell 3 _ rfl
              refine bodyPost_ret (v := .tuple #[.agg #[.int .i64 (-(i : Int)), .int .i64 (X : Nat), .int .u64 0, .int .i64 0], .bool true]) (by simp [results, Tryz.results187, go_sem, y0, y1, y2, y3]) rfl ⟨?_, hB4.trans hb3⟩
              rw [hY00, hLw]
              rfl
          · 
            go_wp2_with fail
            clear hneI
            refine (hnb.out _).mono ?_
            rintro e w3 ⟨rfl, rfl⟩
            clear hsl hl0 hex hcat he2 hcz r2 r3 hc0 hg0 hsz h1R r1 hRn hr0 hB1 hin hinI hR1 hR1I hL hlen
            have zl := hr2.lt
            have hzz := hB2.size
            by_cases hL2 : 2 < L
            · have hL2I : (2 : Int) < (L : Int) := by omega
              have hfr2 := hfr (by omega)
              rw [hfr2] at hnf
              clear hfr hY0 hfr2
              go_wp2_with fail
              refine (hnf.out _).mono ?_
              rintro e w3 ⟨rfl, rfl⟩
              have hLw : (L : Int) - 2 = ((L - 2 : Nat) : Int) := by omega
              have hLb : L - 2 ≤ 62 := by omega
              have hr4 := pBlk_st _ _ _ _ _ hr2 ((Below.refl W2.heap.size W2).alloc (Nat.le_refl _) (.cells #[.int .i64 ((i : Int) - 1), .int .i64 (X : Nat), .int .u64 (Y : Nat), .int .i64 ((L - 2 : Nat) : Int)] 228))
              have hB4 := hB2.trans (((Below.refl W2.heap.size W2).alloc (Nat.le_refl _) (.cells #[.int .i64 ((i : Int) - 1), .int .i64 (X : Nat), .int .u64 (Y : Nat), .int .i64 ((L - 2 : Nat) : Int)] 228)).mono hB2.size)
              go_wp2_with (first | ((with_reducible show wpList _ _ _ (Oper.mk _ (Op.store 228 _ _) _ _ _ _ :: _) _ _); refine wpList_store_whole _ rfl 228 _ _ rfl w.heap.size #[.int .i64 ((i : Int) - 1), .int .i64 (X : Nat), .int .u64 (Y : Nat), .int .i64 ((L - 2 : Nat) : Int)] #[.int .i64 0, .int .i64 0, .int .u64 0, .int .i64 0] 228 rfl rfl hr4 fields_size rfl (by simp [Value.oneCell']) ?_; intro w3 hp3 hb3 hz3))
              replace hp3 : pBlk w.heap.size #[.int .i64 ((i : Int) - 1), .int .i64 (X : Nat), .int .u64 (Y : Nat), .int .i64 ((L - 2 : Nat) : Int)] 228 w3 := hp3
              have y0 : w3.cell? ⟨w.heap.size, 0, none⟩ = some (.int .i64 ((i : Int) - 1)) := hp3.cell 0 _ rfl
              have y1 : w3.cell? ⟨w.heap.size, 1, none⟩ = some (.int .i64 (X : Nat)) := hp3.cell 1 _ rfl
              have y2 : w3.cell? ⟨w.heap.size, 2, none⟩ = some (.int .u64 (((Y : Nat) : Int))) := hp3.cell 2 _ rfl
              have y3 : w3.cell? ⟨w.heap.size, 3, none⟩ = some (.int .i64 (((L - 2 : Nat) : Int))) := hp3.cell 3 _ rfl
              refine bodyPost_ret (v := .tuple #[.agg #[.int .i64 ((i : Int) - 1), .int .i64 (X : Nat), .int .u64 (Y : Nat), .int .i64 ((L - 2 : Nat) : Int)], .bool true]) (by simp [results, Tryz.results187, go_sem, y0, y1, y2, y3]) rfl ⟨?_, hB4.trans hb3⟩
              rfl
            · have hL2I : ¬ (2 : Int) < (L : Int) := by omega
              have hY00 := hY0 (by omega)
              clear hfr hY0 hnf hd2
              have hLw : L - 2 = 0 := by omega
              have hr4 := pBlk_st _ _ _ _ _ hr2 ((Below.refl W2.heap.size W2).alloc (Nat.le_refl _) (.cells #[.int .i64 ((i : Int) - 1), .int .i64 (X : Nat), .int .u64 0, .int .i64 0] 228))
              have hB4 := hB2.trans (((Below.refl W2.heap.size W2).alloc (Nat.le_refl _) (.cells #[.int .i64 ((i : Int) - 1), .int .i64 (X : Nat), .int .u64 0, .int .i64 0] 228)).mono hB2.size)
              go_wp2_with (first | ((with_reducible show wpList _ _ _ (Oper.mk _ (Op.store 228 _ _) _ _ _ _ :: _) _ _); refine wpList_store_whole _ rfl 228 _ _ rfl w.heap.size #[.int .i64 ((i : Int) - 1), .int .i64 (X : Nat), .int .u64 0, .int .i64 0] #[.int .i64 0, .int .i64 0, .int .u64 0, .int .i64 0] 228 rfl rfl hr4 fields_size rfl (by simp [Value.oneCell']) ?_; intro w3 hp3 hb3 hz3))
              replace hp3 : pBlk w.heap.size #[.int .i64 ((i : Int) - 1), .int .i64 (X : Nat), .int .u64 0, .int .i64 0] 228 w3 := hp3
              have y0 : w3.cell? ⟨w.heap.size, 0, none⟩ = some (.int .i64 ((i : Int) - 1)) := hp3.cell 0 _ rfl
              have y1 : w3.cell? ⟨w.heap.size, 1, none⟩ = some (.int .i64 (X : Nat)) := hp3.cell 1 _ rfl
              have y2 : w3.cell? ⟨w.heap.size, 2, none⟩ = some (.int .u64 ((0 : Int))) := hp3.cell 2 _ rfl
              have y3 : w3.cell? ⟨w.heap.size, 3, none⟩ = some (.int .i64 ((0 : Int))) := hp3.cell 3 _ rfl
              refine bodyPost_ret (v := .tuple #[.agg #[.int .i64 ((i : Int) - 1), .int .i64 (X : Nat), .int .u64 0, .int .i64 0], .bool true]) (by simp [results, Tryz.results187, go_sem, y0, y1, y2, y3]) rfl ⟨?_, hB4.trans hb3⟩
              rw [hY00, hLw]
              rfl
        · have hR1I : ¬ (i : Int) + 1 < (n : Int) := by omega
          have hLz := hl0 hR1
          have hS2z := hS20 hLz
          have hex : True := trivial
          subst hS2z
          rcases hf with ⟨rfl, rfl⟩ | ⟨rfl, rfl⟩
          · 
            go_wp2_with fail
            clear hneI
            refine (hnb.out _).mono ?_
            rintro e w3 ⟨rfl, rfl⟩
            clear hsl hl0 hex hcat he2 hcz r2 r3 hc0 hg0 hsz h1R r1 hRn hr0 hB1 hin hinI hR1 hR1I hL hlen
            have zl := hr2.lt
            have hzz := hB2.size
            have hL2 : ¬ 2 < L := by omega
            · have hL2I : ¬ (2 : Int) < (L : Int) := by omega
              have hY00 := hY0 (by omega)
              clear hfr hY0 hnf hd2
              have hLw : L - 2 = 0 := by omega
              have hr4 := pBlk_st _ _ _ _ _ hr2 ((Below.refl W2.heap.size W2).alloc (Nat.le_refl _) (.cells #[.int .i64 (-(i : Int)), .int .i64 (X : Nat), .int .u64 0, .int .i64 0] 228))
              have hB4 := hB2.trans (((Below.refl W2.heap.size W2).alloc (Nat.le_refl _) (.cells #[.int .i64 (-(i : Int)), .int .i64 (X : Nat), .int .u64 0, .int .i64 0] 228)).mono hB2.size)
              go_wp2_with (first | ((with_reducible show wpList _ _ _ (Oper.mk _ (Op.store 228 _ _) _ _ _ _ :: _) _ _); refine wpList_store_whole _ rfl 228 _ _ rfl w.heap.size #[.int .i64 (-(i : Int)), .int .i64 (X : Nat), .int .u64 0, .int .i64 0] #[.int .i64 0, .int .i64 0, .int .u64 0, .int .i64 0] 228 rfl rfl hr4 fields_size rfl (by simp [Value.oneCell']) ?_; intro w3 hp3 hb3 hz3))
              replace hp3 : pBlk w.heap.size #[.int .i64 (-(i : Int)), .int .i64 (X : Nat), .int .u64 0, .int .i64 0] 228 w3 := hp3
              have y0 : w3.cell? ⟨w.heap.size, 0, none⟩ = some (.int .i64 (-(i : Int))) := hp3.cell 0 _ rfl
              have y1 : w3.cell? ⟨w.heap.size, 1, none⟩ = some (.int .i64 (X : Nat)) := hp3.cell 1 _ rfl
              have y2 : w3.cell? ⟨w.heap.size, 2, none⟩ = some (.int .u64 ((0 : Int))) := hp3.cell 2 _ rfl
              have y3 : w3.cell? ⟨w.heap.size, 3, none⟩ = some (.int .i64 ((0 : Int))) := hp3.cell 3 _ rfl
              refine bodyPost_ret (v := .tuple #[.agg #[.int .i64 (-(i : Int)), .int .i64 (X : Nat), .int .u64 0, .int .i64 0], .bool true]) (by simp [results, Tryz.results187, go_sem, y0, y1, y2, y3]) rfl ⟨?_, hB4.trans hb3⟩
              rw [hY00, hLw]
              rfl
          · 
            go_wp2_with fail
            clear hneI
            refine (hnb.out _).mono ?_
            rintro e w3 ⟨rfl, rfl⟩
            clear hsl hl0 hex hcat he2 hcz r2 r3 hc0 hg0 hsz h1R r1 hRn hr0 hB1 hin hinI hR1 hR1I hL hlen
            have zl := hr2.lt
            have hzz := hB2.size
            have hL2 : ¬ 2 < L := by omega
            · have hL2I : ¬ (2 : Int) < (L : Int) := by omega
              have hY00 := hY0 (by omega)
              clear hfr hY0 hnf hd2
              have hLw : L - 2 = 0 := by omega
              have hr4 := pBlk_st _ _ _ _ _ hr2 ((Below.refl W2.heap.size W2).alloc (Nat.le_refl _) (.cells #[.int .i64 ((i : Int) - 1), .int .i64 (X : Nat), .int .u64 0, .int .i64 0] 228))
              have hB4 := hB2.trans (((Below.refl W2.heap.size W2).alloc (Nat.le_refl _) (.cells #[.int .i64 ((i : Int) - 1), .int .i64 (X : Nat), .int .u64 0, .int .i64 0] 228)).mono hB2.size)
              go_wp2_with (first | ((with_reducible show wpList _ _ _ (Oper.mk _ (Op.store 228 _ _) _ _ _ _ :: _) _ _); refine wpList_store_whole _ rfl 228 _ _ rfl w.heap.size #[.int .i64 ((i : Int) - 1), .int .i64 (X : Nat), .int .u64 0, .int .i64 0] #[.int .i64 0, .int .i64 0, .int .u64 0, .int .i64 0] 228 rfl rfl hr4 fields_size rfl (by simp [Value.oneCell']) ?_; intro w3 hp3 hb3 hz3))
              replace hp3 : pBlk w.heap.size #[.int .i64 ((i : Int) - 1), .int .i64 (X : Nat), .int .u64 0, .int .i64 0] 228 w3 := hp3
              have y0 : w3.cell? ⟨w.heap.size, 0, none⟩ = some (.int .i64 ((i : Int) - 1)) := hp3.cell 0 _ rfl
              have y1 : w3.cell? ⟨w.heap.size, 1, none⟩ = some (.int .i64 (X : Nat)) := hp3.cell 1 _ rfl
              have y2 : w3.cell? ⟨w.heap.size, 2, none⟩ = some (.int .u64 ((0 : Int))) := hp3.cell 2 _ rfl
              have y3 : w3.cell? ⟨w.heap.size, 3, none⟩ = some (.int .i64 ((0 : Int))) := hp3.cell 3 _ rfl
              refine bodyPost_ret (v := .tuple #[.agg #[.int .i64 ((i : Int) - 1), .int .i64 (X : Nat), .int .u64 0, .int .i64 0], .bool true]) (by simp [results, Tryz.results187, go_sem, y0, y1, y2, y3]) rfl ⟨?_, hB4.trans hb3⟩
              rw [hY00, hLw]
              rfl
      · have hneI : True := trivial
        subst hin
        have hin : True := trivial
        go_wp2_with fail
        go_quiet (fail)
        have hB2 : Below w.heap.size w (wr.drewN nq) := by
          rw [hwr.out, World.drewN_drewN]
          exact hB1.trans ⟨rfl, rfl, rfl, Nat.le_refl _, fun _ _ => rfl⟩
        have hr2 : pBlk w.heap.size #[.int .i64 0, .int .i64 0, .int .u64 0, .int .i64 0] 228 (wr.drewN nq) := by
          rw [hwr.out, World.drewN_drewN]
          exact hr0
        obtain ⟨W2, hW2⟩ : ∃ W2, wr.drewN nq = W2 := ⟨_, rfl⟩
        rw [hW2] at hB2 hr2 ⊢
        clear hW2 hwr
        have hR1 : ¬ i + 1 < i := by omega
        · have hR1I : ¬ (i : Int) + 1 < (i : Int) := by omega
          have hLz := hl0 hR1
          have hS2z := hS20 hLz
          have hex : True := trivial
          subst hS2z
          rcases hf with ⟨rfl, rfl⟩ | ⟨rfl, rfl⟩
          · 
            go_wp2_with fail
            clear hneI
            refine (hnb.out _).mono ?_
            rintro e w3 ⟨rfl, rfl⟩
            clear hsl hl0 hex hcat he2 hcz r2 r3 hc0 hg0 hsz h1R r1 hRn hr0 hB1 hin hinI hR1 hR1I hL hlen
            have zl := hr2.lt
            have hzz := hB2.size
            have hL2 : ¬ 2 < L := by omega
            · have hL2I : ¬ (2 : Int) < (L : Int) := by omega
              have hY00 := hY0 (by omega)
              clear hfr hY0 hnf hd2
              have hLw : L - 2 = 0 := by omega
              have hr4 := pBlk_st _ _ _ _ _ hr2 ((Below.refl W2.heap.size W2).alloc (Nat.le_refl _) (.cells #[.int .i64 (-(i : Int)), .int .i64 (X : Nat), .int .u64 0, .int .i64 0] 228))
              have hB4 := hB2.trans (((Below.refl W2.heap.size W2).alloc (Nat.le_refl _) (.cells #[.int .i64 (-(i : Int)), .int .i64 (X : Nat), .int .u64 0, .int .i64 0] 228)).mono hB2.size)
              go_wp2_with (first | ((with_reducible show wpList _ _ _ (Oper.mk _ (Op.store 228 _ _) _ _ _ _ :: _) _ _); refine wpList_store_whole _ rfl 228 _ _ rfl w.heap.size #[.int .i64 (-(i : Int)), .int .i64 (X : Nat), .int .u64 0, .int .i64 0] #[.int .i64 0, .int .i64 0, .int .u64 0, .int .i64 0] 228 rfl rfl hr4 fields_size rfl (by simp [Value.oneCell']) ?_; intro w3 hp3 hb3 hz3))
              replace hp3 : pBlk w.heap.size #[.int .i64 (-(i : Int)), .int .i64 (X : Nat), .int .u64 0, .int .i64 0] 228 w3 := hp3
              have y0 : w3.cell? ⟨w.heap.size, 0, none⟩ = some (.int .i64 (-(i : Int))) := hp3.cell 0 _ rfl
              have y1 : w3.cell? ⟨w.heap.size, 1, none⟩ = some (.int .i64 (X : Nat)) := hp3.cell 1 _ rfl
              have y2 : w3.cell? ⟨w.heap.size, 2, none⟩ = some (.int .u64 ((0 : Int))) := hp3.cell 2 _ rfl
              have y3 : w3.cell? ⟨w.heap.size, 3, none⟩ = some (.int .i64 ((0 : Int))) := hp3.cell 3 _ rfl
              refine bodyPost_ret (v := .tuple #[.agg #[.int .i64 (-(i : Int)), .int .i64 (X : Nat), .int .u64 0, .int .i64 0], .bool true]) (by simp [results, Tryz.results187, go_sem, y0, y1, y2, y3]) rfl ⟨?_, hB4.trans hb3⟩
              rw [hY00, hLw]
              rfl
          · 
            go_wp2_with fail
            clear hneI
            refine (hnb.out _).mono ?_
            rintro e w3 ⟨rfl, rfl⟩
            clear hsl hl0 hex hcat he2 hcz r2 r3 hc0 hg0 hsz h1R r1 hRn hr0 hB1 hin hinI hR1 hR1I hL hlen
            have zl := hr2.lt
            have hzz := hB2.size
            have hL2 : ¬ 2 < L := by omega
            · have hL2I : ¬ (2 : Int) < (L : Int) := by omega
              have hY00 := hY0 (by omega)
              clear hfr hY0 hnf hd2
              have hLw : L - 2 = 0 := by omega
              have hr4 := pBlk_st _ _ _ _ _ hr2 ((Below.refl W2.heap.size W2).alloc (Nat.le_refl _) (.cells #[.int .i64 ((i : Int) - 1), .int .i64 (X : Nat), .int .u64 0, .int .i64 0] 228))
              have hB4 := hB2.trans (((Below.refl W2.heap.size W2).alloc (Nat.le_refl _) (.cells #[.int .i64 ((i : Int) - 1), .int .i64 (X : Nat), .int .u64 0, .int .i64 0] 228)).mono hB2.size)
              go_wp2_with (first | ((with_reducible show wpList _ _ _ (Oper.mk _ (Op.store 228 _ _) _ _ _ _ :: _) _ _); refine wpList_store_whole _ rfl 228 _ _ rfl w.heap.size #[.int .i64 ((i : Int) - 1), .int .i64 (X : Nat), .int .u64 0, .int .i64 0] #[.int .i64 0, .int .i64 0, .int .u64 0, .int .i64 0] 228 rfl rfl hr4 fields_size rfl (by simp [Value.oneCell']) ?_; intro w3 hp3 hb3 hz3))
              replace hp3 : pBlk w.heap.size #[.int .i64 ((i : Int) - 1), .int .i64 (X : Nat), .int .u64 0, .int .i64 0] 228 w3 := hp3
              have y0 : w3.cell? ⟨w.heap.size, 0, none⟩ = some (.int .i64 ((i : Int) - 1)) := hp3.cell 0 _ rfl
              have y1 : w3.cell? ⟨w.heap.size, 1, none⟩ = some (.int .i64 (X : Nat)) := hp3.cell 1 _ rfl
              have y2 : w3.cell? ⟨w.heap.size, 2, none⟩ = some (.int .u64 ((0 : Int))) := hp3.cell 2 _ rfl
              have y3 : w3.cell? ⟨w.heap.size, 3, none⟩ = some (.int .i64 ((0 : Int))) := hp3.cell 3 _ rfl
              refine bodyPost_ret (v := .tuple #[.agg #[.int .i64 ((i : Int) - 1), .int .i64 (X : Nat), .int .u64 0, .int .i64 0], .bool true]) (by simp [results, Tryz.results187, go_sem, y0, y1, y2, y3]) rfl ⟨?_, hB4.trans hb3⟩
              rw [hY00, hLw]
              rfl
end Go.Proofs.YtncfbleeidjflaaGreatDoor
