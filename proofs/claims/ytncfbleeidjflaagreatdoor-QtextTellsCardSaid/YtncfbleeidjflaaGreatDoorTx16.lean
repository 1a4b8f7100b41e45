/- Scan, first part: words. Conditions: a text's reach. -/
import Derived.Test.YtncfbleeidjflaaGreatDoorTx13
import Derived.Test.YtncfbleeidjflaaGreatDoorTx02
import Derived.Deep.QuietTactic
import Derived.BigQuiet
namespace Go.Proofs.YtncfbleeidjflaaGreatDoor
open Go.RowKit Go.Cal
def strL (l : List UInt8) : ByteArray := ⟨l.toArray⟩
theorem strL_size (l : List UInt8) : (strL l).size = l.length := by simp [strL, ByteArray.size]
theorem strL_get (l : List UInt8) (i : Nat) (h : i < (strL l).size) : (strL l)[i] = l.getD i 0 := by
  have h' : i < l.length := by rwa [strL_size] at h
  show l.toArray[i]'_ = _
  simp [List.getD_eq_getElem?_getD, h']
  rfl
/-- The program's row of words. -/
def wordsL : List (List UInt8) := [[], [], wINF, wNAN, wNAR]
theorem swords_any (w : World) : Calls Tryz.prog 161 #[] w fun e w' => e = .returned (.slice (some ⟨w.heap.size, 0, none⟩) 5 5) ∧ w' = w.alloc (.cells #[.string (strL []), .string (strL []), .string (strL wINF), .string (strL wNAN), .string (strL wNAR)] 9) := by
  go_enter Tryz.func161, Tryz.ntmps161
  go_wp2
  go_ret
  exact ⟨rfl, rfl⟩
/-- The furthest of the first i words. -/
def maxW (t : List UInt8) : Nat → Nat
  | 0 => 0
  | i + 1 => max (maxW t i) (lcp t (wordsL.getD i []))
theorem maxW_all (t : List UInt8) : maxW t 5 = wordN t := by
  show max (max (max (max (max 0 (lcp t [])) (lcp t [])) (lcp t wINF)) (lcp t wNAN)) (lcp t wNAR) = _
  rw [lcp_nil]
  unfold wordN
  omega
theorem wordK_hit {t : List UInt8} {i : Nat} (h0 : t ≠ []) (h : t = wordsL.getD i []) (hi : i < 5) : wordK t = i ∧ 2 ≤ i := by
  have hc : i = 0 ∨ i = 1 ∨ i = 2 ∨ i = 3 ∨ i = 4 := by omega
  rcases hc with rfl | rfl | rfl | rfl | rfl
  · exact absurd h h0
  · exact absurd h h0
  · subst h; exact ⟨rfl, by omega⟩
  · subst h; exact ⟨rfl, by omega⟩
  · subst h; exact ⟨rfl, by omega⟩
theorem wordK_miss {t : List UInt8} (h : ∀ i, i < 5 → wordsL.getD i [] ≠ [] → t ≠ wordsL.getD i []) : wordK t = 0 := by
  unfold wordK
  have h2 : t ≠ wINF := h 2 (by omega) (by decide)
  have h3 : t ≠ wNAN := h 3 (by omega) (by decide)
  have h4 : t ≠ wNAR := h 4 (by omega) (by decide)
  rw [if_neg h2, if_neg h3, if_neg h4]
/-- What word tells. -/
def WordTells (w : World) (t : List UInt8) (f : Nat) (e : Ending) (w' : World) : Prop :=
  ((wordK t ≠ 0 ∧ e = .returned (.tuple #[.int .i64 (wordK t : Nat), .int .i64 0, .bool true])) ∨ (wordK t = 0 ∧ e = .returned (.tuple #[.int .i64 0, .int .i64 ((f + wordN t : Nat) : Int), .bool false]))) ∧ Below w.heap.size w w'
set_option maxRecDepth 100000 in
set_option maxHeartbeats 1000000 in
theorem sword_any (l : List UInt8) (hl : l.length ≤ maxLen) (f : Nat) (hf : f ≤ l.length) (w : World) : Calls Tryz.prog 86 #[.string (strL l), .int .i64 f] w (WordTells w (l.drop f) f) := by
  obtain ⟨t, ht⟩ : ∃ t, l.drop f = t := ⟨_, rfl⟩
  have htl : t.length = l.length - f := by rw [← ht, List.length_drop]
  have hget : ∀ n (h : f + n < (strL l).size), (strL l)[f + n] = t.getD n 0 := fun n h => by
    rw [strL_get l _ h, ← ht]
    simp [List.getD_eq_getElem?_getD, List.getElem?_drop]
  have hsz := strL_size l
  rw [ht]
  obtain ⟨s, hs⟩ : ∃ s, strL l = s := ⟨_, rfl⟩
  rw [hs] at hget hsz ⊢
  unfold maxLen at hl
  replace hget := Lib.hid hget
  replace ht := Lib.hid ht
  replace hs := Lib.hid hs
  go_enter Tryz.func86, Tryz.ntmps86
  go_wp2_with fail
  refine (swords_any w).mono ?_
  rintro e w0 ⟨rfl, hw0⟩
  have hb0 : Below w.heap.size w w0 := by rw [hw0]; exact (Below.refl _ _).alloc (Nat.le_refl _) _
  have hcw : ∀ i, i < 5 → w0.cell? ⟨w.heap.size, i, none⟩ = some (.string (strL (wordsL.getD i []))) := fun i hi => by
    have hc : i = 0 ∨ i = 1 ∨ i = 2 ∨ i = 3 ∨ i = 4 := by omega
    rw [hw0]
    rcases hc with rfl | rfl | rfl | rfl | rfl <;> simp [wordsL]
  have hg : w.heap.size < w0.heap.size := by rw [hw0]; simp
  clear hw0
  go_wp2
  go_loopg [5, 13] 5 (fun k av iv wr => ∃ i : Nat, iv = .int .i64 i ∧ i + k = 5 ∧ av = .int .i64 ((f + maxW t i : Nat) : Int) ∧ (∀ j, j < i → wordsL.getD j [] ≠ [] → t ≠ wordsL.getD j []) ∧ Below w0.heap.size w0 wr)
  case atStart => exact ⟨0, rfl, rfl, rfl, fun j hj => absurd hj (by omega), .refl _ _⟩
  case round =>
    obtain ⟨i, rfl, hik, rfl, hno, hbw⟩ := hrel
    have hfin := chain hb0 hbw
    by_cases hk0 : gk = 0
    · subst hk0
      obtain rfl : i = 5 := by omega
      have hk := wordK_miss hno
      rw [maxW_all]
      replace hk := Lib.hid hk
      clear hno
      go_wp2
      go_ret3
      exact ⟨.inr ⟨hk.out, rfl⟩, hfin⟩
    · have hi5 : i < 5 := by omega
      have hi5' : (i : Int) < 5 := by omega
      have hci := hcw i hi5
      rw [← hbw.cell (p := ⟨w.heap.size, i, none⟩) hg] at hci
      obtain ⟨wl, hwl⟩ : ∃ x, wordsL.getD i [] = x := ⟨_, rfl⟩
      have hwl3 : wl.length ≤ 3 := by
        rw [← hwl]
        have hc : i = 0 ∨ i = 1 ∨ i = 2 ∨ i = 3 ∨ i = 4 := by omega
        rcases hc with rfl | rfl | rfl | rfl | rfl <;> decide
      rw [hwl] at hci
      obtain ⟨s2, hs2⟩ : ∃ x, strL wl = x := ⟨_, rfl⟩
      have hsz2 := strL_size wl
      have hget2 := strL_get wl
      rw [hs2] at hci hsz2 hget2
      obtain ⟨m, hm⟩ : ∃ m, wl.length = m := ⟨_, rfl⟩
      rw [hm] at hsz2 hwl3
      have hsz2' : (s2.size : Int) = (m : Int) := by rw [hsz2]
      obtain ⟨c, hc⟩ : ∃ c, lcp t wl = c := ⟨_, rfl⟩
      have hcm : c ≤ m := by rw [← hc, ← hm]; exact lcp_le_right t wl
      have hct : c ≤ t.length := by rw [← hc]; exact lcp_le_left t wl
      have hsame := fun n (h : n < c) => lcp_same t wl n (by rw [hc]; exact h)
      have hstop : c < m → c < t.length → t.getD c 0 ≠ wl.getD c 0 := fun h1 h2 => by
        have := lcp_stop t wl (by rw [hc, hm]; exact h1) (by rw [hc]; exact h2)
        rwa [hc] at this
      have hmax : maxW t (i + 1) = max (maxW t i) c := by
        show max (maxW t i) (lcp t (wordsL.getD i [])) = _
        rw [hwl, hc]
      have hempty : s2.toList.isEmpty = decide (m = 0) := by
        rw [← hs2, ← hm, ← hwl]
        have hc : i = 0 ∨ i = 1 ∨ i = 2 ∨ i = 3 ∨ i = 4 := by omega
        rcases hc with rfl | rfl | rfl | rfl | rfl <;> decide +kernel
      have hnext : (t ≠ wl ∨ wl = []) → ∀ j, j < i + 1 → wordsL.getD j [] ≠ [] → t ≠ wordsL.getD j [] := fun h j hj hj0 => by
        rcases Nat.eq_or_lt_of_le (Nat.le_of_lt_succ hj) with rfl | hj
        · rw [hwl] at hj0 ⊢
          rcases h with h | h
          · exact h
          · exact absurd h hj0
        · exact hno j hj hj0
      replace hc := Lib.hid hc
      replace hm := Lib.hid hm
      replace hs2 := Lib.hid hs2
      replace hwl := Lib.hid hwl
      replace hget2 := Lib.hid hget2
      replace hsame := Lib.hid hsame
      replace hstop := Lib.hid hstop
      replace hmax := Lib.hid hmax
      replace hno := Lib.hid hno
      replace hempty := Lib.hid hempty
      replace hnext := Lib.hid hnext
      obtain ⟨g1, rfl⟩ : ∃ g, g = gk := ⟨_, rfl⟩
      go_wp2
      go_loopg [9] c (fun k nv wr => ∃ n : Nat, nv = .int .i64 n ∧ n + k = c ∧ Below w0.heap.size w0 wr)
      case atStart => exact ⟨0, rfl, by omega, hbw⟩
      case round =>
        clear hbw hci hfin
        obtain ⟨n, rfl, hnk, hbw⟩ := hrel
        have hfin := chain hb0 hbw
        obtain ⟨p, hp⟩ : ∃ p, f + n = p := ⟨_, rfl⟩
        have hwr : IntKind.i64.wrap ((f : Int) + (n : Int)) = (p : Int) := by simp [IntKind.wrap, IntKind.bits, IntKind.signed]; omega
        have hpl : p ≤ l.length := by omega
        by_cases hk1 : gk = 0
        · subst hk1
          obtain rfl : n = c := by omega
          have hn3 : n ≤ 3 := by omega
          have hfp : f ≤ p := by omega
          by_cases hA : n = m
          · have hn1 : ¬ (n : Int) < (m : Int) := by omega
            subst hA
            by_cases hm0 : n = 0
            · have hE : s2.toList.isEmpty = true := by rw [hempty.out]; simpa using hm0
              have hne : t ≠ wl ∨ wl = [] := .inr (List.eq_nil_of_length_eq_zero (by rw [hm.out]; exact hm0))
              have hnx := hnext.out hne
              have hmx := hmax.out
              rw [hm0, Nat.max_zero] at hmx
              have hn0 : ¬ (0 : Int) < (n : Int) := by omega
              replace hm0 := Lib.hid hm0
              replace hnx := Lib.hid hnx
              replace hmx := Lib.hid hmx
              clear hne
              have hbw2 : ∀ q, Below w0.heap.size w0 (wr.drewN q) := fun q => hbw.trans (Drawn.below ⟨q, rfl⟩ _)
              go_wp2_with fail
              go_quiet (fail)
              go_wp2
              go_roundg (g1 - 1)
              case measure => omega
              case rel => exact ⟨i + 1, by go_num, by omega, by first | (rw [hmx.out]; go_num) | go_num, hnx.out, hbw2 _⟩
            · have hE : s2.toList.isEmpty = false := by rw [hempty.out]; simpa using hm0
              have hn0 : (0 : Int) < (n : Int) := by omega
              have hmx : max ((f : Int) + ((maxW t i : Nat) : Int)) (p : Int) = (f : Int) + ((maxW t (i + 1) : Nat) : Int) := by rw [hmax.out]; omega
              by_cases hfe : f + n = l.length
              · have hfe' : (p : Int) = (l.length : Int) := by omega
                have htw : t = wl := lcp_all t wl (by rw [hc.out, hm.out]) (by rw [hm.out]; omega)
                have hne0 : t ≠ [] := fun e => hm0 (by rw [← hm.out, ← htw, e]; rfl)
                obtain ⟨hk1, hk2⟩ := wordK_hit hne0 (by rw [htw, hwl.out]) hi5
                have hk0 : wordK t ≠ 0 := by omega
                replace hk1 := Lib.hid hk1
                replace hk0 := Lib.hid hk0
                replace htw := Lib.hid htw
                replace hne0 := Lib.hid hne0
                replace hmx := Lib.hid hmx
                have hbw2 : ∀ q, Below w.heap.size w (wr.drewN q) := fun q => hfin.trans (Drawn.below ⟨q, rfl⟩ _)
                go_wp2_with fail
                go_quiet (fail)
                go_wp2
                go_ret3
                exact ⟨.inl ⟨hk0.out, by rw [hk1.out]; rfl⟩, hbw2 _⟩
              · have hfe' : ((p : Int) == (l.length : Int)) = false := by simp; omega
                have hnx := hnext.out (.inl (fun e => hfe (by have : t.length = wl.length := by rw [e]
                                                              rw [hm.out] at this; omega)))
                replace hnx := Lib.hid hnx
                have hbw2 : ∀ q, Below w0.heap.size w0 (wr.drewN q) := fun q => hbw.trans (Drawn.below ⟨q, rfl⟩ _)
                go_wp2_with fail
                go_quiet (fail)
                go_wp2
                go_roundg (g1 - 1)
                case measure => omega
                case rel => exact ⟨i + 1, by go_num, by omega, by first | (rw [hmx.out]; go_num) | go_num, hnx.out, hbw2 _⟩
          · have hn1 : (n : Int) < (m : Int) := by omega
            have hnm : ((n : Int) == (m : Int)) = false := by simp; omega
            have hnx := hnext.out (.inl (fun e => hA (by rw [← hc.out, ← hm.out, e, lcp_self])))
            have hE : s2.toList.isEmpty = false := by rw [hempty.out]; simp; omega
            have hmx : max ((f : Int) + ((maxW t i : Nat) : Int)) (p : Int) = (f : Int) + ((maxW t (i + 1) : Nat) : Int) := by rw [hmax.out]; omega
            have hmx0 : n = 0 → maxW t (i + 1) = maxW t i := fun e => by rw [hmax.out, e]; omega
            replace hnx := Lib.hid hnx
            replace hmx0 := Lib.hid hmx0
            by_cases hfe : f + n = l.length
            · have hn2 : decide (p < l.length) = false := by rw [decide_eq_false]; omega
              replace hfe := Lib.hid hfe
              by_cases hm0 : n = 0
              · have hn0 : ¬ (0 : Int) < (n : Int) := by omega
                have hmx := Lib.hid (hmx0.out hm0)
                replace hm0 := Lib.hid hm0
                have hbw2 : ∀ q, Below w0.heap.size w0 (wr.drewN q) := fun q => hbw.trans (Drawn.below ⟨q, rfl⟩ _)
                go_wp2_with fail
                go_quiet (fail)
                go_wp2
                go_roundg (g1 - 1)
                case measure => omega
                case rel => exact ⟨i + 1, by go_num, by omega, by first | (rw [hmx.out]; go_num) | go_num, hnx.out, hbw2 _⟩
              · have hn0 : (0 : Int) < (n : Int) := by omega
                have hbw2 : ∀ q, Below w0.heap.size w0 (wr.drewN q) := fun q => hbw.trans (Drawn.below ⟨q, rfl⟩ _)
                go_wp2_with fail
                go_quiet (fail)
                go_wp2
                go_roundg (g1 - 1)
                case measure => omega
                case rel => exact ⟨i + 1, by go_num, by omega, by first | (rw [hmx.out]; go_num) | go_num, hnx.out, hbw2 _⟩
            · have hn2 : (p : Int) < (l.length : Int) := by omega
              have hg1 := hget.out n (by rw [hsz]; omega)
              simp only [hp] at hg1
              have hg2 := hget2.out n (by rw [hsz2]; omega)
              have hdf := hstop.out (by omega) (by omega)
              obtain ⟨x, hx⟩ : ∃ x, t.getD n 0 = x := ⟨_, rfl⟩
              obtain ⟨y, hy⟩ : ∃ x, wl.getD n 0 = x := ⟨_, rfl⟩
              rw [hx] at hg1 hdf
              rw [hy] at hg2 hdf
              have hxy : ((x.toNat : Int) == (y.toNat : Int)) = false := by
                have : x.toNat ≠ y.toNat := fun e => hdf (UInt8.toNat_inj.1 e)
                simp; omega
              replace hx := Lib.hid hx
              replace hy := Lib.hid hy
              replace hfe := Lib.hid hfe
              replace hdf := Lib.hid hdf
              replace hA := Lib.hid hA
              by_cases hm0 : n = 0
              · have hn0 : ¬ (0 : Int) < (n : Int) := by omega
                have hmx := Lib.hid (hmx0.out hm0)
                replace hm0 := Lib.hid hm0
                have hbw2 : ∀ q, Below w0.heap.size w0 (wr.drewN q) := fun q => hbw.trans (Drawn.below ⟨q, rfl⟩ _)
                go_wp2_with fail
                go_quiet (fail)
                go_wp2
                go_roundg (g1 - 1)
                case measure => omega
                case rel => exact ⟨i + 1, by go_num, by omega, by first | (rw [hmx.out]; go_num) | go_num, hnx.out, hbw2 _⟩
              · have hn0 : (0 : Int) < (n : Int) := by omega
                have hbw2 : ∀ q, Below w0.heap.size w0 (wr.drewN q) := fun q => hbw.trans (Drawn.below ⟨q, rfl⟩ _)
                go_wp2_with fail
                go_quiet (fail)
                go_wp2
                go_roundg (g1 - 1)
                case measure => omega
                case rel => exact ⟨i + 1, by go_num, by omega, by first | (rw [hmx.out]; go_num) | go_num, hnx.out, hbw2 _⟩
        · have hn1 : (n : Int) < (m : Int) := by omega
          have hn2 : (p : Int) < (l.length : Int) := by omega
          have hg1 := hget.out n (by rw [hsz]; omega)
          simp only [hp] at hg1
          have hg2 := hget2.out n (by rw [hsz2]; omega)
          rw [hsame.out n (by omega)] at hg1
          obtain ⟨y, hy⟩ : ∃ x, wl.getD n 0 = x := ⟨_, rfl⟩
          rw [hy] at hg1 hg2
          replace hy := Lib.hid hy
          have hbw2 : ∀ q, Below w0.heap.size w0 (wr.drewN q) := fun q => hbw.trans (Drawn.below ⟨q, rfl⟩ _)
          have hn3 : n ≤ 3 := by omega
          go_wp2_with fail
          go_quiet (fail)
          go_wp2
          go_roundg (gk - 1)
          case measure => omega
          case rel => exact ⟨n + 1, by go_num, by omega, hbw2 _⟩
end Go.Proofs.YtncfbleeidjflaaGreatDoor
