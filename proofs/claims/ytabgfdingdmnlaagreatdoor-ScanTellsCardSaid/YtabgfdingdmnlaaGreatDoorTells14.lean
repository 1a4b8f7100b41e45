/- Scan, first part: words. Conditions: a text's reach. -/
/- A scope with three labels: to one the run jumps forward, to two it jumps back. Conditions: none. -/
import Derived.Test.YtabgfdingdmnlaaGreatDoorTells11
import Derived.Test.YtabgfdingdmnlaaGreatDoorTells13
import Derived.Deep.QuietTactic
import Derived.BigQuiet
import Derived.Test.YtabgfdingdmnlaaGreatDoorTells00
import Derived.ScopeJumps
namespace Go.Proofs.YtabgfdingdmnlaaGreatDoor
open Go.RowKit Go.Cal
def strL (l : List UInt8) : ByteArray := ⟨l.toArray⟩
theorem strL_size (l : List UInt8) : (strL l).size = l.length := by simp [strL, ByteArray.size]
theorem strL_get (l : List UInt8) (i : Nat) (h : i < (strL l).size) : (strL l)[i] = l.getD i 0 := by
  have h' : i < l.length := by rwa [strL_size] at h
  show l.toArray[i]'_ = _
  simp [List.getD_eq_getElem?_getD, h']
  rfl
/-- The program's row of words. -/
def wordsL : List (List UInt8) := [[], [], wINF, wNAN, wNAR]
theorem swords_any (w : World) : Calls Tryz.prog 26 #[] w fun e w' => e = .returned (.slice (some ⟨w.heap.size, 0, none⟩) 5 5) ∧ w' = w.alloc (.cells #[.string (strL []), .string (strL []), .string (strL wINF), .string (strL wNAN), .string (strL wNAR)] 9) := by
  go_enter Tryz.func26, Tryz.ntmps26
  go_wp2
  go_ret
  exact ⟨rfl, rfl⟩
/-- The furthest of the first i words. -/
def maxW (t : List UInt8) : Nat → Nat
  | 0 => 0
  | i + 1 => max (maxW t i) (lcp t (wordsL.getD i []))
theorem maxW_all (t : List UInt8) : maxW t 5 = wordN t := by
  show max (max (max (max (max 0 (lcp t [])) (lcp t [])) (lcp t wINF)) (lcp t wNAN)) (lcp t wNAR) = _
  rw [lcp_nil]
  unfold wordN
  omega
theorem wordK_hit {t : List UInt8} {i : Nat} (h0 : t ≠ []) (h : t = wordsL.getD i []) (hi : i < 5) : wordK t = i ∧ 2 ≤ i := by
  have hc : i = 0 ∨ i = 1 ∨ i = 2 ∨ i = 3 ∨ i = 4 := by omega
  rcases hc with rfl | rfl | rfl | rfl | rfl
  · exact absurd h h0
  · exact absurd h h0
  · subst h; exact ⟨rfl, by omega⟩
  · subst h; exact ⟨rfl, by omega⟩
  · subst h; exact ⟨rfl, by omega⟩
theorem wordK_miss {t : List UInt8} (h : ∀ i, i < 5 → wordsL.getD i [] ≠ [] → t ≠ wordsL.getD i []) : wordK t = 0 := by
  unfold wordK
  have h2 : t ≠ wINF := h 2 (by omega) (by decide)
  have h3 : t ≠ wNAN := h 3 (by omega) (by decide)
  have h4 : t ≠ wNAR := h 4 (by omega) (by decide)
  rw [if_neg h2, if_neg h3, if_neg h4]
/-- What word tells. -/
def WordTells (w : World) (t : List UInt8) (f : Nat) (e : Ending) (w' : World) : Prop :=
  ((wordK t ≠ 0 ∧ e = .returned (.tuple #[.int .i64 (wordK t : Nat), .int .i64 0, .bool true])) ∨ (wordK t = 0 ∧ e = .returned (.tuple #[.int .i64 0, .int .i64 ((f + wordN t : Nat) : Int), .bool false]))) ∧ Below w.heap.size w w'
set_option maxRecDepth 100000 in
set_option maxHeartbeats 1000000 in
theorem sword_any (l : List UInt8) (hl : l.length ≤ maxLen) (f : Nat) (hf : f ≤ l.length) (w : World) : Calls Tryz.prog 11 #[.string (strL l), .int .i64 f] w (WordTells w (l.drop f) f) := by
  obtain ⟨t, ht⟩ : ∃ t, l.drop f = t := ⟨_, rfl⟩
  have htl : t.length = l.length - f := by rw [← ht, List.length_drop]
  have hget : ∀ n (h : f + n < (strL l).size), (strL l)[f + n] = t.getD n 0 := fun n h => by
    rw [strL_get l _ h, ← ht]
    simp [List.getD_eq_getElem?_getD, List.getElem?_drop]
  have hsz := strL_size l
  rw [ht]
  obtain ⟨s, hs⟩ : ∃ s, strL l = s := ⟨_, rfl⟩
  rw [hs] at hget hsz ⊢
  unfold maxLen at hl
  replace hget := Lib.hid hget
  replace ht := Lib.hid ht
  replace hs := Lib.hid hs
  go_enter Tryz.func11, Tryz.ntmps11
  go_wp2_with fail
  refine (swords_any w).mono ?_
  rintro e w0 ⟨rfl, hw0⟩
  have hb0 : Below w.heap.size w w0 := by rw [hw0]; exact (Below.refl _ _).alloc (Nat.le_refl _) _
  have hcw : ∀ i, i < 5 → w0.cell? ⟨w.heap.size, i, none⟩ = some (.string (strL (wordsL.getD i []))) := fun i hi => by
    have hc : i = 0 ∨ i = 1 ∨ i = 2 ∨ i = 3 ∨ i = 4 := by omega
    rw [hw0]
    rcases hc with rfl | rfl | rfl | rfl | rfl <;> simp [wordsL]
  have hg : w.heap.size < w0.heap.size := by rw [hw0]; simp
  clear hw0
  go_wp2
  go_loopg [5, 13] 5 (fun k av iv wr => ∃ i : Nat, iv = .int .i64 i ∧ i + k = 5 ∧ av = .int .i64 ((f + maxW t i : Nat) : Int) ∧ (∀ j, j < i → wordsL.getD j [] ≠ [] → t ≠ wordsL.getD j []) ∧ Below w0.heap.size w0 wr)
  case atStart => exact ⟨0, rfl, rfl, rfl, fun j hj => absurd hj (by omega), .refl _ _⟩
  case round =>
    obtain ⟨i, rfl, hik, rfl, hno, hbw⟩ := hrel
    have hfin := chain hb0 hbw
    by_cases hk0 : gk = 0
    · subst hk0
      obtain rfl : i = 5 := by omega
      have hk := wordK_miss hno
      rw [maxW_all]
      replace hk := Lib.hid hk
      clear hno
      go_wp2
      go_ret3
      exact ⟨.inr ⟨hk.out, rfl⟩, hfin⟩
    · have hi5 : i < 5 := by omega
      have hi5' : (i : Int) < 5 := by omega
      have hci := hcw i hi5
      rw [← hbw.cell (p := ⟨w.heap.size, i, none⟩) hg] at hci
      obtain ⟨wl, hwl⟩ : ∃ x, wordsL.getD i [] = x := ⟨_, rfl⟩
      have hwl3 : wl.length ≤ 3 := by
        rw [← hwl]
        have hc : i = 0 ∨ i = 1 ∨ i = 2 ∨ i = 3 ∨ i = 4 := by omega
        rcases hc with rfl | rfl | rfl | rfl | rfl <;> decide
      rw [hwl] at hci
      obtain ⟨s2, hs2⟩ : ∃ x, strL wl = x := ⟨_, rfl⟩
      have hsz2 := strL_size wl
      have hget2 := strL_get wl
      rw [hs2] at hci hsz2 hget2
      obtain ⟨m, hm⟩ : ∃ m, wl.length = m := ⟨_, rfl⟩
      rw [hm] at hsz2 hwl3
      have hsz2' : (s2.size : Int) = (m : Int) := by rw [hsz2]
      obtain ⟨c, hc⟩ : ∃ c, lcp t wl = c := ⟨_, rfl⟩
      have hcm : c ≤ m := by rw [← hc, ← hm]; exact lcp_le_right t wl
      have hct : c ≤ t.length := by rw [← hc]; exact lcp_le_left t wl
      have hsame := fun n (h : n < c) => lcp_same t wl n (by rw [hc]; exact h)
      have hstop : c < m → c < t.length → t.getD c 0 ≠ wl.getD c 0 := fun h1 h2 => by
        have := lcp_stop t wl (by rw [hc, hm]; exact h1) (by rw [hc]; exact h2)
        rwa [hc] at this
      have hmax : maxW t (i + 1) = max (maxW t i) c := by
        show max (maxW t i) (lcp t (wordsL.getD i [])) = _
        rw [hwl, hc]
      have hempty : s2.toList.isEmpty = decide (m = 0) := by
        rw [← hs2, ← hm, ← hwl]
        have hc : i = 0 ∨ i = 1 ∨ i = 2 ∨ i = 3 ∨ i = 4 := by omega
        rcases hc with rfl | rfl | rfl | rfl | rfl <;> decide +kernel
      have hnext : (t ≠ wl ∨ wl = []) → ∀ j, j < i + 1 → wordsL.getD j [] ≠ [] → t ≠ wordsL.getD j [] := fun h j hj hj0 => by
        rcases Nat.eq_or_lt_of_le (Nat.le_of_lt_succ hj) with rfl | hj
        · rw [hwl] at hj0 ⊢
          rcases h with h | h
          · exact h
          · exact absurd h hj0
        · exact hno j hj hj0
      replace hc := Lib.hid hc
      replace hm := Lib.hid hm
      replace hs2 := Lib.hid hs2
      replace hwl := Lib.hid hwl
      replace hget2 := Lib.hid hget2
      replace hsame := Lib.hid hsame
      replace hstop := Lib.hid hstop
      replace hmax := Lib.hid hmax
      replace hno := Lib.hid hno
      replace hempty := Lib.hid hempty
      replace hnext := Lib.hid hnext
      obtain ⟨g1, rfl⟩ : ∃ g, g = gk := ⟨_, rfl⟩
      go_wp2
      go_loopg [9] c (fun k nv wr => ∃ n : Nat, nv = .int .i64 n ∧ n + k = c ∧ Below w0.heap.size w0 wr)
      case atStart => exact ⟨0, rfl, by omega, hbw⟩
      case round =>
        clear hbw hci hfin
        obtain ⟨n, rfl, hnk, hbw⟩ := hrel
        have hfin := chain hb0 hbw
        obtain ⟨p, hp⟩ : ∃ p, f + n = p := ⟨_, rfl⟩
        have hwr : IntKind.i64.wrap ((f : Int) + (n : Int)) = (p : Int) := by simp [IntKind.wrap, IntKind.bits, IntKind.signed]; omega
        have hpl : p ≤ l.length := by omega
        by_cases hk1 : gk = 0
        · subst hk1
          obtain rfl : n = c := by omega
          have hn3 : n ≤ 3 := by omega
          have hfp : f ≤ p := by omega
          by_cases hA : n = m
          · have hn1 : ¬ (n : Int) < (m : Int) := by omega
            subst hA
            by_cases hm0 : n = 0
            · have hE : s2.toList.isEmpty = true := by rw [hempty.out]; simpa using hm0
              have hne : t ≠ wl ∨ wl = [] := .inr (List.eq_nil_of_length_eq_zero (by rw [hm.out]; exact hm0))
              have hnx := hnext.out hne
              have hmx := hmax.out
              rw [hm0, Nat.max_zero] at hmx
              have hn0 : ¬ (0 : Int) < (n : Int) := by omega
              replace hm0 := Lib.hid hm0
              replace hnx := Lib.hid hnx
              replace hmx := Lib.hid hmx
              clear hne
              have hbw2 : ∀ q, Below w0.heap.size w0 (wr.drewN q) := fun q => hbw.trans (Drawn.below ⟨q, rfl⟩ _)
              go_wp2_with fail
              go_quiet (fail)
              go_wp2
              go_roundg (g1 - 1)
              case measure => omega
              case rel => exact ⟨i + 1, by go_num, by omega, by first | (rw [hmx.out]; go_num) | go_num, hnx.out, hbw2 _⟩
            · have hE : s2.toList.isEmpty = false := by rw [hempty.out]; simpa using hm0
              have hn0 : (0 : Int) < (n : Int) := by omega
              have hmx : max ((f : Int) + ((maxW t i : Nat) : Int)) (p : Int) = (f : Int) + ((maxW t (i + 1) : Nat) : Int) := by rw [hmax.out]; omega
              by_cases hfe : f + n = l.length
              · have hfe' : (p : Int) = (l.length : Int) := by omega
                have htw : t = wl := lcp_all t wl (by rw [hc.out, hm.out]) (by rw [hm.out]; omega)
                have hne0 : t ≠ [] := fun e => hm0 (by rw [← hm.out, ← htw, e]; rfl)
                obtain ⟨hk1, hk2⟩ := wordK_hit hne0 (by rw [htw, hwl.out]) hi5
                have hk0 : wordK t ≠ 0 := by omega
                replace hk1 := Lib.hid hk1
                replace hk0 := Lib.hid hk0
                replace htw := Lib.hid htw
                replace hne0 := Lib.hid hne0
                replace hmx := Lib.hid hmx
                have hbw2 : ∀ q, Below w.heap.size w (wr.drewN q) := fun q => hfin.trans (Drawn.below ⟨q, rfl⟩ _)
                go_wp2_with fail
                go_quiet (fail)
                go_wp2
                go_ret3
                exact ⟨.inl ⟨hk0.out, by rw [hk1.out]; rfl⟩, hbw2 _⟩
              · have hfe' : ((p : Int) == (l.length : Int)) = false := by simp; omega
                have hnx := hnext.out (.inl (fun e => hfe (by have : t.length = wl.length := by rw [e]
                                                              rw [hm.out] at this; omega)))
                replace hnx := Lib.hid hnx
                have hbw2 : ∀ q, Below w0.heap.size w0 (wr.drewN q) := fun q => hbw.trans (Drawn.below ⟨q, rfl⟩ _)
                go_wp2_with fail
                go_quiet (fail)
                go_wp2
                go_roundg (g1 - 1)
                case measure => omega
                case rel => exact ⟨i + 1, by go_num, by omega, by first | (rw [hmx.out]; go_num) | go_num, hnx.out, hbw2 _⟩
          · have hn1 : (n : Int) < (m : Int) := by omega
            have hnm : ((n : Int) == (m : Int)) = false := by simp; omega
            have hnx := hnext.out (.inl (fun e => hA (by rw [← hc.out, ← hm.out, e, lcp_self])))
            have hE : s2.toList.isEmpty = false := by rw [hempty.out]; simp; omega
            have hmx : max ((f : Int) + ((maxW t i : Nat) : Int)) (p : Int) = (f : Int) + ((maxW t (i + 1) : Nat) : Int) := by rw [hmax.out]; omega
            have hmx0 : n = 0 → maxW t (i + 1) = maxW t i := fun e => by rw [hmax.out, e]; omega
            replace hnx := Lib.hid hnx
            replace hmx0 := Lib.hid hmx0
            by_cases hfe : f + n = l.length
            · have hn2 : decide (p < l.length) = false := by rw [decide_eq_false]; omega
              replace hfe := Lib.hid hfe
              by_cases hm0 : n = 0
              · have hn0 : ¬ (0 : Int) < (n : Int) := by omega
                have hmx := Lib.hid (hmx0.out hm0)
                replace hm0 := Lib.hid hm0
                have hbw2 : ∀ q, Below w0.heap.size w0 (wr.drewN q) := fun q => hbw.trans (Drawn.below ⟨q, rfl⟩ _)
                go_wp2_with fail
                go_quiet (fail)
                go_wp2
                go_roundg (g1 - 1)
                case measure => omega
                case rel => exact ⟨i + 1, by go_num, by omega, by first | (rw [hmx.out]; go_num) | go_num, hnx.out, hbw2 _⟩
              · have hn0 : (0 : Int) < (n : Int) := by omega
                have hbw2 : ∀ q, Below w0.heap.size w0 (wr.drewN q) := fun q => hbw.trans (Drawn.below ⟨q, rfl⟩ _)
                go_wp2_with fail
                go_quiet (fail)
                go_wp2
                go_roundg (g1 - 1)
                case measure => omega
                case rel => exact ⟨i + 1, by go_num, by omega, by first | (rw [hmx.out]; go_num) | go_num, hnx.out, hbw2 _⟩
            · have hn2 : (p : Int) < (l.length : Int) := by omega
              have hg1 := hget.out n (by rw [hsz]; omega)
              simp only [hp] at hg1
              have hg2 := hget2.out n (by rw [hsz2]; omega)
              have hdf := hstop.out (by omega) (by omega)
              obtain ⟨x, hx⟩ : ∃ x, t.getD n 0 = x := ⟨_, rfl⟩
              obtain ⟨y, hy⟩ : ∃ x, wl.getD n 0 = x := ⟨_, rfl⟩
              rw [hx] at hg1 hdf
              rw [hy] at hg2 hdf
              have hxy : ((x.toNat : Int) == (y.toNat : Int)) = false := by
                have : x.toNat ≠ y.toNat := fun e => hdf (UInt8.toNat_inj.1 e)
                simp; omega
              replace hx := Lib.hid hx
              replace hy := Lib.hid hy
              replace hfe := Lib.hid hfe
              replace hdf := Lib.hid hdf
              replace hA := Lib.hid hA
              by_cases hm0 : n = 0
              · have hn0 : ¬ (0 : Int) < (n : Int) := by omega
                have hmx := Lib.hid (hmx0.out hm0)
                replace hm0 := Lib.hid hm0
                have hbw2 : ∀ q, Below w0.heap.size w0 (wr.drewN q) := fun q => hbw.trans (Drawn.below ⟨q, rfl⟩ _)
                go_wp2_with fail
                go_quiet (fail)
                go_wp2
                go_roundg (g1 - 1)
                case measure => omega
                case rel => exact ⟨i + 1, by go_num, by omega, by first | (rw [hmx.out]; go_num) | go_num, hnx.out, hbw2 _⟩
              · have hn0 : (0 : Int) < (n : Int) := by omega
                have hbw2 : ∀ q, Below w0.heap.size w0 (wr.drewN q) := fun q => hbw.trans (Drawn.below ⟨q, rfl⟩ _)
                go_wp2_with fail
                go_quiet (fail)
                go_wp2
                go_roundg (g1 - 1)
                case measure => omega
                case rel => exact ⟨i + 1, by go_num, by omega, by first | (rw [hmx.out]; go_num) | go_num, hnx.out, hbw2 _⟩
        · have hn1 : (n : Int) < (m : Int) := by omega
          have hn2 : (p : Int) < (l.length : Int) := by omega
          have hg1 := hget.out n (by rw [hsz]; omega)
          simp only [hp] at hg1
          have hg2 := hget2.out n (by rw [hsz2]; omega)
          rw [hsame.out n (by omega)] at hg1
          obtain ⟨y, hy⟩ : ∃ x, wl.getD n 0 = x := ⟨_, rfl⟩
          rw [hy] at hg1 hg2
          replace hy := Lib.hid hy
          have hbw2 : ∀ q, Below w0.heap.size w0 (wr.drewN q) := fun q => hbw.trans (Drawn.below ⟨q, rfl⟩ _)
          have hn3 : n ≤ 3 := by omega
          go_wp2_with fail
          go_quiet (fail)
          go_wp2
          go_roundg (gk - 1)
          case measure => omega
          case rel => exact ⟨n + 1, by go_num, by omega, hbw2 _⟩
end Go.Proofs.YtabgfdingdmnlaaGreatDoor
namespace Go.Cal
section
variable {P : Program} {a : Act} {w : World} {Q : Exit → Act → World → Prop}
/-- From code on: it ends as Q says, whatever is asked at a goto. -/
def Goes (P : Program) (Q : Exit → Act → World → Prop) (r : Code) (G : Nat → Act → World → Prop) (a : Act) (w : World) : Prop :=
  ∀ Q' : Exit → Act → World → Prop, (∀ a' w', Q .ret a' w' → Q' .ret a' w') → (∀ l a' w', G l a' w' → Q' (.goto l) a' w') → r.wp P Q' a w
theorem Goes.skip {r : Code} {G : Nat → Act → World → Prop} (h : Goes P Q r G a w) : Goes P Q (Code.skip.seq r) G a w := fun Q' h1 h2 => wp_seq (wp_skip (h Q' h1 h2))
theorem wp_scope_three {c r0 r1 r2 : Code} (l0 l1 l2 : Nat) (hf0 : findLabel c l0 = some (Code.skip.seq r0)) (hf1 : findLabel c l1 = some (Code.skip.seq r1)) (hf2 : findLabel c l2 = some (Code.skip.seq r2))
    (J0 J1 J2 : Act → World → Prop) (μ0 μ2 : Act → World → Nat)
    (p1 : ∀ a w, J1 a w → Goes P Q r1 (fun _ _ _ => False) a w)
    (p2 : (∀ a w, J1 a w → Goes P Q r1 (fun _ _ _ => False) a w) → ∀ a w, J2 a w → Goes P Q r2 (fun l a' w' => l = l2 ∧ J2 a' w' ∧ μ2 a' w' < μ2 a w) a w)
    (p0 : (∀ a w, J1 a w → Goes P Q r1 (fun _ _ _ => False) a w) → (∀ a w, J2 a w → Goes P Q r2 (fun l a' w' => l = l2 ∧ J2 a' w' ∧ μ2 a' w' < μ2 a w) a w) → ∀ a w, J0 a w → Goes P Q r0 (fun l a' w' => (l = l0 ∧ J0 a' w' ∧ μ0 a' w' < μ0 a w) ∨ (l = l1 ∧ J1 a' w') ∨ (l = l2 ∧ J2 a' w')) a w)
    (first : (∀ a w, J0 a w → Goes P Q r0 (fun l a' w' => (l = l0 ∧ J0 a' w' ∧ μ0 a' w' < μ0 a w) ∨ (l = l1 ∧ J1 a' w') ∨ (l = l2 ∧ J2 a' w')) a w) → Goes P Q c (fun l a' w' => (l = l0 ∧ J0 a' w') ∨ (l = l1 ∧ J1 a' w') ∨ (l = l2 ∧ J2 a' w')) a w) : (Code.scope c).wp P Q a w := by
  have q2 := p2 p1
  have q0 := p0 p1 q2
  intro b k cs
  have go : ∀ {l r}, findLabel c l = some r → gotoIn l (.inScope c :: k) = some (.code r :: .inScope c :: k) := fun h => by simp [gotoIn, h]
  let Ends := fun (x : Act) (v : World) (r : Code) => ∃ e a' w', Q e a' w' ∧ Arrives P (lone (b.at x (.code r :: .inScope c :: k)) cs v) b k cs e a' w'
  -- a run of r that ends by a return, or by a goto that ends
  have close : ∀ (r : Code) (x : Act) (v : World) (G : Nat → Act → World → Prop), Goes P Q r G x v →
      (∀ l a' w', G l a' w' → ∃ r', findLabel c l = some r' ∧ Ends a' w' r') → Ends x v r := by
    intro r x v G hg hG
    obtain ⟨e, a₁, w₁, hq, harr⟩ := hg (fun e a' w' => match e with | .ret => Q .ret a' w' | .goto l => G l a' w' | _ => False) (fun _ _ h => h) (fun _ _ _ h => h) b (.inScope c :: k) cs
    cases e with
    | ret => exact ⟨_, a₁, w₁, hq, harr⟩
    | goto l =>
      obtain ⟨r', hf, e₂, a₂, w₂, hq₂, harr₂⟩ := hG l a₁ w₁ hq
      exact ⟨e₂, a₂, w₂, hq₂, .of_steps (harr _ (go hf)) harr₂⟩
    | normal => exact absurd hq id
    | exit id => exact absurd hq _root_.id
    | panic ch => exact absurd hq id
    | outgrown => exact absurd hq id
  have k1 : ∀ x v, J1 x v → Ends x v (Code.skip.seq r1) := fun x v h => close (Code.skip.seq r1) x v _ (p1 x v h).skip (fun _ _ _ f => f.elim)
  have k2 : ∀ n x v, μ2 x v = n → J2 x v → Ends x v (Code.skip.seq r2) := by
    intro n
    induction n using Nat.strongRecOn with
    | _ n ih =>
      intro x v hn hJ
      refine close (Code.skip.seq r2) x v _ (q2 x v hJ).skip ?_
      rintro l a' w' ⟨rfl, hj, hlt⟩
      exact ⟨Code.skip.seq r2, hf2, ih _ (by omega) a' w' rfl hj⟩
  have k0 : ∀ n x v, μ0 x v = n → J0 x v → Ends x v (Code.skip.seq r0) := by
    intro n
    induction n using Nat.strongRecOn with
    | _ n ih =>
      intro x v hn hJ
      refine close (Code.skip.seq r0) x v _ (q0 x v hJ).skip ?_
      rintro l a' w' (⟨rfl, hj, hlt⟩ | ⟨rfl, hj⟩ | ⟨rfl, hj⟩)
      · exact ⟨Code.skip.seq r0, hf0, ih _ (by omega) a' w' rfl hj⟩
      · exact ⟨Code.skip.seq r1, hf1, k1 a' w' hj⟩
      · exact ⟨Code.skip.seq r2, hf2, k2 _ a' w' rfl hj⟩
  obtain ⟨e, a₁, w₁, hq, harr⟩ := close c a w _ (first q0) (by
    rintro l a' w' (⟨rfl, hj⟩ | ⟨rfl, hj⟩ | ⟨rfl, hj⟩)
    · exact ⟨Code.skip.seq r0, hf0, k0 _ a' w' rfl hj⟩
    · exact ⟨Code.skip.seq r1, hf1, k1 a' w' hj⟩
    · exact ⟨Code.skip.seq r2, hf2, k2 _ a' w' rfl hj⟩)
  exact ⟨e, a₁, w₁, hq, .of_steps (.one step_scope) harr⟩
end
theorem results_tmp5 {fn : Func} {t u v x y : Tmp} (h : fn.results = #[.tmp t, .tmp u, .tmp v, .tmp x, .tmp y]) (tmps : Array Value) (P : Program) (w : World) :
    (results fn tmps).run P w = .ok (.tuple #[tmps.getD t undef, tmps.getD u undef, tmps.getD v undef, tmps.getD x undef, tmps.getD y undef]) w := by
  simp [results, h]
/-- What some slots of a frame hold. -/
def Has (a : Act) : List (Nat × Value) → Prop
  | [] => True
  | kv :: l => a.tmps.getD kv.1 undef = kv.2 ∧ Has a l
def Fr (n : Nat) (a : Act) (l : List (Nat × Value)) : Prop := a.defers = [] ∧ a.tmps.size = n ∧ Has a l
theorem Has.get {a : Act} {k : Nat} {v : Value} : ∀ {l : List (Nat × Value)}, Has a l → l.lookup k = some v → a.tmps.getD k undef = v
  | [], _, h => by simp at h
  | (k', v') :: l, hh, h => by
    rw [List.lookup_cons] at h
    split at h
    · rename_i e
      have e2 : k = k' := by simpa using e
      subst e2
      rw [hh.1]
      exact Option.some.inj h
    · exact hh.2.get h
/-- A frame, written out: the slots that are not told hold something. -/
theorem Fr.lit {n : Nat} {a : Act} {l : List (Nat × Value)} (h : Fr n a l) : ∃ u : Nat → Value, a = { tmps := ((List.range n).map fun k => (l.lookup k).getD (u k)).toArray, defers := [] } := by
  obtain ⟨h1, h2, h3⟩ := h
  refine ⟨fun k => a.tmps.getD k undef, ?_⟩
  obtain ⟨tmps, defers⟩ := a
  simp only at h1 h2
  subst h1
  congr 1
  apply Array.ext
  · simpa using h2
  · intro i hi1 hi2
    have e1 : tmps.getD i undef = tmps[i] := by simp [Array.getD, hi1]
    have e2 : ((List.range n).map fun k => (l.lookup k).getD (tmps.getD k undef)).toArray[i] = (l.lookup i).getD (tmps.getD i undef) := by simp
    show tmps[i] = ((List.range n).map fun k => (l.lookup k).getD (tmps.getD k undef)).toArray[i]
    rw [e2]
    cases hl : l.lookup i with
    | none => rw [Option.getD_none, e1]
    | some v =>
      rw [Option.getD_some, ← e1]
      exact Has.get (a := ⟨tmps, []⟩) h3 hl
end Go.Cal
