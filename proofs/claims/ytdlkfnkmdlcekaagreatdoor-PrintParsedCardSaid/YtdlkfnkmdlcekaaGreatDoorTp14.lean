/- The nat layer, by values, where a number's words have no noughts at the end; live facts of any kind. Conditions: a number's words are counted. -/
/- Scan, first part: words. Conditions: a text's reach. -/
/- Scan, third part: what a number of digits is. Conditions: a text's reach. -/
import Derived.Test.YtdlkfnkmdlcekaaGreatDoorTp13
import Derived.Test.YtdlkfnkmdlcekaaGreatDoorTp01
import Derived.Deep.QuietTactic
import Derived.BigQuiet
import Derived.Test.YtdlkfnkmdlcekaaGreatDoorTp03
namespace Go.Proofs.YtdlkfnkmdlcekaaGreatDoor
open Go.RowKit Go.Cal
/-- A fact that stays where old memory stays. -/
def Stable (P : World → Prop) : Prop := ∀ w w', P w → Below w.heap.size w w' → P w'
/-- Below B nothing has turned; the facts of the list hold. -/
structure LiveP (B w : World) (l : List (World → Prop)) : Prop where
  below : Below B.heap.size B w
  all : ∀ P ∈ l, Stable P ∧ P w
section
variable {B w w' : World} {l l' : List (World → Prop)} {P : World → Prop}
theorem LiveP.start (w : World) : LiveP w w [] := ⟨.refl _ _, fun p hp => by simp at hp⟩
theorem LiveP.size (h : LiveP B w l) : B.heap.size ≤ w.heap.size := h.below.size
theorem LiveP.get (h : LiveP B w l) (hm : P ∈ l) : P w := (h.all _ hm).2
theorem LiveP.go (h : LiveP B w l) (hb : Below w.heap.size w w') : LiveP B w' l := ⟨h.below.trans (hb.mono h.size), fun p hp => ⟨(h.all p hp).1, (h.all p hp).1 _ _ (h.all p hp).2 hb⟩⟩
theorem LiveP.put (h : LiveP B w l) (hs : Stable P) (hv : P w) : LiveP B w (P :: l) := ⟨h.below, fun p hp => by
  rcases List.mem_cons.1 hp with rfl | hp
  · exact ⟨hs, hv⟩
  · exact h.all p hp⟩
theorem LiveP.keep (h : LiveP B w l) (hs : ∀ p ∈ l', p ∈ l) : LiveP B w l' := ⟨h.below, fun p hp => h.all p (hs p hp)⟩
end
/-- The value reads as the number N: its words have no noughts at the end. -/
def IsT (w : World) (v : Value) (k N : Nat) : Prop :=
  ∃ A c zs, v = .slice A (zs : List Nat).length c ∧ RdU w w.heap.size A zs ∧ zs.length ≤ c ∧ c ≤ maxLen ∧ zs.length ≤ k ∧ Nrm zs N
theorem IsT.below {w w' : World} {v : Value} {k N : Nat} (h : IsT w v k N) (hb : Below w.heap.size w w') : IsT w' v k N := by
  obtain ⟨A, c, zs, h1, h2, h3⟩ := h
  exact ⟨A, c, zs, h1, (h2.below hb).more hb.size, h3⟩
theorem IsT.isN {w : World} {v : Value} {k N : Nat} (h : IsT w v k N) : IsN w v k N := by
  obtain ⟨A, c, zs, h1, h2, h3, h4, h5, h6⟩ := h
  exact ⟨A, c, zs, h1, h2, h3, h5, h6.dig, h6.val⟩
theorem IsT.ofW {w : World} {base k N : Nat} {A : Option Addr} {c : Nat} {zs : List Nat} (g : GotW w base A c zs) (n : Nrm zs N) (hk : N < 18446744073709551616 ^ k) : IsT w (.slice A zs.length c) k N :=
  ⟨A, c, zs, rfl, g.rd, g.cap, g.small, n.length_le hk, n⟩
def pT (v : Value) (k N : Nat) (w : World) : Prop := IsT w v k N
theorem pT_st (v : Value) (k N : Nat) : Stable (pT v k N) := fun _ _ h hb => IsT.below h hb
/-- A call tells one number. -/
def TellsT (w : World) (k N : Nat) (e : Ending) (w' : World) : Prop := ∃ v, e = .returned v ∧ pT v k N w' ∧ Below w.heap.size w w'
section
variable {w : World} {v1 v2 : Value} {k1 k2 X Y : Nat}
theorem tellsT_of_retN {N k : Nat} {e : Ending} {w' : World} (hk : N < 18446744073709551616 ^ k) (hr : RetN w N e w') : TellsT w k N e w' := by
  obtain ⟨A, c, zs, rfl, g, n, hb⟩ := hr
  exact ⟨_, rfl, .ofW (gotU_toW g) n hk, hb⟩
theorem tellsT_of_retW {N k : Nat} {e : Ending} {w' : World} (hk : N < 18446744073709551616 ^ k) (hr : RetW w N e w') : TellsT w k N e w' := by
  obtain ⟨A, c, zs, rfl, g, n, hb⟩ := hr
  exact ⟨_, rfl, .ofW g n hk, hb⟩
theorem add_t (h1 : IsN w v1 k1 X) (h2 : IsN w v2 k2 Y) (b1 : k1 ≤ 1048576) (b2 : k2 ≤ 1048576) : Calls Tryz.prog 112 #[v1, v2] w (TellsT w (max k1 k2 + 1) (X + Y)) := by
  have i1 := h1.lt
  have i2 := h2.lt
  obtain ⟨A1, c1, z1, rfl, r1, hc1, hl1, d1, rfl⟩ := h1
  obtain ⟨A2, c2, z2, rfl, r2, hc2, hl2, d2, rfl⟩ := h2
  refine (add_any c1 c2 w r1 r2 (by omega) (by omega) d1 d2).mono fun e w' hr => tellsT_of_retN ?_ hr
  have e1 : 18446744073709551616 ^ k1 ≤ 18446744073709551616 ^ max k1 k2 := Nat.pow_le_pow_right (by omega) (Nat.le_max_left _ _)
  have e2 : 18446744073709551616 ^ k2 ≤ 18446744073709551616 ^ max k1 k2 := Nat.pow_le_pow_right (by omega) (Nat.le_max_right _ _)
  rw [Nat.pow_succ]
  omega
theorem mul_t (h1 : IsN w v1 k1 X) (h2 : IsN w v2 k2 Y) (b1 : k1 ≤ 1048576) (b2 : k2 ≤ 1048576) : Calls Tryz.prog 67 #[v1, v2] w (TellsT w (k1 + k2) (X * Y)) := by
  have i1 := h1.lt
  have i2 := h2.lt
  obtain ⟨A1, c1, z1, rfl, r1, hc1, hl1, d1, rfl⟩ := h1
  obtain ⟨A2, c2, z2, rfl, r2, hc2, hl2, d2, rfl⟩ := h2
  refine (mul_any c1 c2 w r1 r2 (by omega) (by omega) d1 d2).mono fun e w' hr => tellsT_of_retN ?_ hr
  rw [Nat.pow_add]
  exact Nat.mul_lt_mul'' i1 i2
theorem cmp_t (h1 : IsN w v1 k1 X) (h2 : IsN w v2 k2 Y) (b1 : k1 ≤ 1048576) (b2 : k2 ≤ 1048576) : Calls Tryz.prog 143 #[v1, v2] w fun e w' => e = .returned (.int .i64 (cmpV (X : Int) (Y : Int))) ∧ Below w.heap.size w w' := by
  obtain ⟨A1, c1, z1, rfl, r1, hc1, hl1, d1, rfl⟩ := h1
  obtain ⟨A2, c2, z2, rfl, r2, hc2, hl2, d2, rfl⟩ := h2
  exact (cmp_any c1 c2 w r1 r2 hc1 hc2 (by omega) (by omega) d1 d2).mono fun e w' ⟨he, hd⟩ => ⟨he, hd.below _⟩
/-- Sub and Parse, where there is a number. -/
def TellsTO (w : World) (k N : Nat) (e : Ending) (w' : World) : Prop := ∃ v, e = .returned (.tuple #[v, .bool true]) ∧ pT v k N w' ∧ Below w.heap.size w w'
def TellsTD (w : World) (k k' Q R : Nat) (e : Ending) (w' : World) : Prop := ∃ v v', e = .returned (.tuple #[v, v', .bool true]) ∧ pT v k Q w' ∧ pT v' k' R w' ∧ Below w.heap.size w w'
theorem div_t (h1 : IsN w v1 k1 X) (h2 : IsN w v2 k2 Y) (b1 : k1 ≤ 1048576) (b2 : k2 ≤ 1048576) (h0 : 0 < Y) : Calls Tryz.prog 117 #[v1, v2] w (TellsTD w k1 k2 (X / Y) (X % Y)) := by
  have i1 := h1.lt
  have i2 := h2.lt
  obtain ⟨A1, c1, z1, rfl, r1, hc1, hl1, d1, rfl⟩ := h1
  obtain ⟨A2, c2, z2, rfl, r2, hc2, hl2, d2, rfl⟩ := h2
  refine (div_any c1 c2 w r1 r2 hc1 hc2 (by omega) (by omega) d1 d2).mono fun e w' hr => ?_
  unfold RetDiv at hr
  rw [if_neg (by omega)] at hr
  obtain ⟨A, c, zs, A', c', rs, rfl, g, n, g', n', hb⟩ := hr
  exact ⟨_, _, rfl, .ofW g n (Nat.lt_of_le_of_lt (Nat.div_le_self _ _) i1), .ofW g' n' (Nat.lt_trans (Nat.mod_lt _ h0) i2), hb⟩
theorem shl_t (n : Int) (k' N : Nat) (h1 : IsN w v1 k1 X) (b1 : k1 ≤ 1048576) (hN : X * 2 ^ (min (max n 0) 131072).toNat = N) (hk : N < 18446744073709551616 ^ k') : Calls Tryz.prog 66 #[v1, .int .i64 n] w (TellsT w k' N) := by
  subst hN
  obtain ⟨A1, c1, z1, rfl, r1, hc1, hl1, d1, rfl⟩ := h1
  exact (shl_any c1 n w r1 hc1 (by omega) d1).mono fun e w' hr => tellsT_of_retN hk hr
theorem norm_t (h1 : IsN w v1 k1 X) (b1 : k1 ≤ 1048576) : Calls Tryz.prog 26 #[v1] w (TellsT w k1 X) := by
  have i1 := h1.lt
  obtain ⟨A1, c1, z1, rfl, r1, hc1, hl1, d1, rfl⟩ := h1
  exact (norm_any c1 w r1 hc1 (by omega) d1).mono fun e w' hr => tellsT_of_retW i1 hr
end
theorem of_t (w : World) (n : Nat) (hn : n < 18446744073709551616) : Calls Tryz.prog 60 #[.int .u64 n] w (TellsT w 1 n) :=
  (of_any n hn w).mono fun _ _ hr => tellsT_of_retW (by rw [Nat.pow_one]; exact hn) hr
theorem pow_t (w : World) (base : Nat) (hb : base < 18446744073709551616) (n : Int) (n0 : Nat) (hn : (min (max n 0) 10000).toNat = n0) : Calls Tryz.prog 68 #[.int .u64 base, .int .i64 n] w (TellsT w (n0 + 1) (base ^ n0)) := by
  subst hn
  exact (pow_any base hb n w).mono fun _ _ hr => tellsT_of_retW (Nat.lt_of_le_of_lt (Nat.pow_le_pow_left (Nat.le_of_lt hb) _) (Nat.pow_lt_pow_right (by omega) (Nat.lt_succ_self _))) hr
theorem parse_t (w : World) (s : ByteArray) (hs : POk s.data.toList) : Calls Tryz.prog 76 #[.string s] w (TellsTO w s.data.toList.length (numV s.data.toList)) :=
  (parse_any s w hs).mono fun _ _ ⟨⟨_, _, _, he, g, n⟩, hb⟩ => ⟨_, he, .ofW g n (Nat.lt_of_lt_of_le (numV_lt _ hs.dig) (Nat.pow_le_pow_left (by omega) _)), hb⟩
end Go.Proofs.YtdlkfnkmdlcekaaGreatDoor
namespace Go.Proofs.YtdlkfnkmdlcekaaGreatDoor
open Go.RowKit Go.Cal
def strL (l : List UInt8) : ByteArray := ⟨l.toArray⟩
theorem strL_size (l : List UInt8) : (strL l).size = l.length := by simp [strL, ByteArray.size]
theorem strL_get (l : List UInt8) (i : Nat) (h : i < (strL l).size) : (strL l)[i] = l.getD i 0 := by
  have h' : i < l.length := by rwa [strL_size] at h
  show l.toArray[i]'_ = _
  simp [List.getD_eq_getElem?_getD, h']
  rfl
/-- The program's row of words. -/
def wordsL : List (List UInt8) := [[], [], wINF, wNAN, wNAR]
theorem swords_any (w : World) : Calls Tryz.prog 93 #[] w fun e w' => e = .returned (.slice (some ⟨w.heap.size, 0, none⟩) 5 5) ∧ w' = w.alloc (.cells #[.string (strL []), .string (strL []), .string (strL wINF), .string (strL wNAN), .string (strL wNAR)] 9) := by
  go_enter Tryz.func93, Tryz.ntmps93
  go_wp2
  go_ret
  exact ⟨rfl, rfl⟩
/-- The furthest of the first i words. -/
def maxW (t : List UInt8) : Nat → Nat
  | 0 => 0
  | i + 1 => max (maxW t i) (lcp t (wordsL.getD i []))
theorem maxW_all (t : List UInt8) : maxW t 5 = wordN t := by
  show max (max (max (max (max 0 (lcp t [])) (lcp t [])) (lcp t wINF)) (lcp t wNAN)) (lcp t wNAR) = _
  rw [lcp_nil]
  unfold wordN
  omega
theorem wordK_hit {t : List UInt8} {i : Nat} (h0 : t ≠ []) (h : t = wordsL.getD i []) (hi : i < 5) : wordK t = i ∧ 2 ≤ i := by
  have hc : i = 0 ∨ i = 1 ∨ i = 2 ∨ i = 3 ∨ i = 4 := by omega
  rcases hc with rfl | rfl | rfl | rfl | rfl
  · exact absurd h h0
  · exact absurd h h0
  · subst h; exact ⟨rfl, by omega⟩
  · subst h; exact ⟨rfl, by omega⟩
  · subst h; exact ⟨rfl, by omega⟩
theorem wordK_miss {t : List UInt8} (h : ∀ i, i < 5 → wordsL.getD i [] ≠ [] → t ≠ wordsL.getD i []) : wordK t = 0 := by
  unfold wordK
  have h2 : t ≠ wINF := h 2 (by omega) (by decide)
  have h3 : t ≠ wNAN := h 3 (by omega) (by decide)
  have h4 : t ≠ wNAR := h 4 (by omega) (by decide)
  rw [if_neg h2, if_neg h3, if_neg h4]
/-- What word tells. -/
def WordTells (w : World) (t : List UInt8) (f : Nat) (e : Ending) (w' : World) : Prop :=
  ((wordK t ≠ 0 ∧ e = .returned (.tuple #[.int .i64 (wordK t : Nat), .int .i64 0, .bool true])) ∨ (wordK t = 0 ∧ e = .returned (.tuple #[.int .i64 0, .int .i64 ((f + wordN t : Nat) : Int), .bool false]))) ∧ Below w.heap.size w w'
set_option maxRecDepth 100000 in
set_option maxHeartbeats 1000000 in
theorem sword_any (l : List UInt8) (hl : l.length ≤ maxLen) (f : Nat) (hf : f ≤ l.length) (w : World) : Calls Tryz.prog 62 #[.string (strL l), .int .i64 f] w (WordTells w (l.drop f) f) := by
  obtain ⟨t, ht⟩ : ∃ t, l.drop f = t := ⟨_, rfl⟩
  have htl : t.length = l.length - f := by rw [← ht, List.length_drop]
  have hget : ∀ n (h : f + n < (strL l).size), (strL l)[f + n] = t.getD n 0 := fun n h => by
    rw [strL_get l _ h, ← ht]
    simp [List.getD_eq_getElem?_getD, List.getElem?_drop]
  have hsz := strL_size l
  rw [ht]
  obtain ⟨s, hs⟩ : ∃ s, strL l = s := ⟨_, rfl⟩
  rw [hs] at hget hsz ⊢
  unfold maxLen at hl
  replace hget := Lib.hid hget
  replace ht := Lib.hid ht
  replace hs := Lib.hid hs
  go_enter Tryz.func62, Tryz.ntmps62
  go_wp2_with fail
  refine (swords_any w).mono ?_
  rintro e w0 ⟨rfl, hw0⟩
  have hb0 : Below w.heap.size w w0 := by rw [hw0]; exact (Below.refl _ _).alloc (Nat.le_refl _) _
  have hcw : ∀ i, i < 5 → w0.cell? ⟨w.heap.size, i, none⟩ = some (.string (strL (wordsL.getD i []))) := fun i hi => by
    have hc : i = 0 ∨ i = 1 ∨ i = 2 ∨ i = 3 ∨ i = 4 := by omega
    rw [hw0]
    rcases hc with rfl | rfl | rfl | rfl | rfl <;> simp [wordsL]
  have hg : w.heap.size < w0.heap.size := by rw [hw0]; simp
  clear hw0
  go_wp2
  go_loopg [5, 13] 5 (fun k av iv wr => ∃ i : Nat, iv = .int .i64 i ∧ i + k = 5 ∧ av = .int .i64 ((f + maxW t i : Nat) : Int) ∧ (∀ j, j < i → wordsL.getD j [] ≠ [] → t ≠ wordsL.getD j []) ∧ Below w0.heap.size w0 wr)
  case atStart => exact ⟨0, rfl, rfl, rfl, fun j hj => absurd hj (by omega), .refl _ _⟩
  case round =>
    obtain ⟨i, rfl, hik, rfl, hno, hbw⟩ := hrel
    have hfin := chain hb0 hbw
    by_cases hk0 : gk = 0
    · subst hk0
      obtain rfl : i = 5 := by omega
      have hk := wordK_miss hno
      rw [maxW_all]
      replace hk := Lib.hid hk
      clear hno
      go_wp2
      go_ret3
      exact ⟨.inr ⟨hk.out, rfl⟩, hfin⟩
    · have hi5 : i < 5 := by omega
      have hi5' : (i : Int) < 5 := by omega
      have hci := hcw i hi5
      rw [← hbw.cell (p := ⟨w.heap.size, i, none⟩) hg] at hci
      obtain ⟨wl, hwl⟩ : ∃ x, wordsL.getD i [] = x := ⟨_, rfl⟩
      have hwl3 : wl.length ≤ 3 := by
        rw [← hwl]
        have hc : i = 0 ∨ i = 1 ∨ i = 2 ∨ i = 3 ∨ i = 4 := by omega
        rcases hc with rfl | rfl | rfl | rfl | rfl <;> decide
      rw [hwl] at hci
      obtain ⟨s2, hs2⟩ : ∃ x, strL wl = x := ⟨_, rfl⟩
      have hsz2 := strL_size wl
      have hget2 := strL_get wl
      rw [hs2] at hci hsz2 hget2
      obtain ⟨m, hm⟩ : ∃ m, wl.length = m := ⟨_, rfl⟩
      rw [hm] at hsz2 hwl3
      have hsz2' : (s2.size : Int) = (m : Int) := by rw [hsz2]
      obtain ⟨c, hc⟩ : ∃ c, lcp t wl = c := ⟨_, rfl⟩
      have hcm : c ≤ m := by rw [← hc, ← hm]; exact lcp_le_right t wl
      have hct : c ≤ t.length := by rw [← hc]; exact lcp_le_left t wl
      have hsame := fun n (h : n < c) => lcp_same t wl n (by rw [hc]; exact h)
      have hstop : c < m → c < t.length → t.getD c 0 ≠ wl.getD c 0 := fun h1 h2 => by
        have := lcp_stop t wl (by rw [hc, hm]; exact h1) (by rw [hc]; exact h2)
        rwa [hc] at this
      have hmax : maxW t (i + 1) = max (maxW t i) c := by
        show max (maxW t i) (lcp t (wordsL.getD i [])) = _
        rw [hwl, hc]
      have hempty : s2.toList.isEmpty = decide (m = 0) := by
        rw [← hs2, ← hm, ← hwl]
        have hc : i = 0 ∨ i = 1 ∨ i = 2 ∨ i = 3 ∨ i = 4 := by omega
        rcases hc with rfl | rfl | rfl | rfl | rfl <;> decide +kernel
      have hnext : (t ≠ wl ∨ wl = []) → ∀ j, j < i + 1 → wordsL.getD j [] ≠ [] → t ≠ wordsL.getD j [] := fun h j hj hj0 => by
        rcases Nat.eq_or_lt_of_le (Nat.le_of_lt_succ hj) with rfl | hj
        · rw [hwl] at hj0 ⊢
          rcases h with h | h
          · exact h
          · exact absurd h hj0
        · exact hno j hj hj0
      replace hc := Lib.hid hc
      replace hm := Lib.hid hm
      replace hs2 := Lib.hid hs2
      replace hwl := Lib.hid hwl
      replace hget2 := Lib.hid hget2
      replace hsame := Lib.hid hsame
      replace hstop := Lib.hid hstop
      replace hmax := Lib.hid hmax
      replace hno := Lib.hid hno
      replace hempty := Lib.hid hempty
      replace hnext := Lib.hid hnext
      obtain ⟨g1, rfl⟩ : ∃ g, g = gk := ⟨_, rfl⟩
      go_wp2
      go_loopg [9] c (fun k nv wr => ∃ n : Nat, nv = .int .i64 n ∧ n + k = c ∧ Below w0.heap.size w0 wr)
      case atStart => exact ⟨0, rfl, by omega, hbw⟩
      case round =>
        clear hbw hci hfin
        obtain ⟨n, rfl, hnk, hbw⟩ := hrel
        have hfin := chain hb0 hbw
        obtain ⟨p, hp⟩ : ∃ p, f + n = p := ⟨_, rfl⟩
        have hwr : IntKind.i64.wrap ((f : Int) + (n : Int)) = (p : Int) := by simp [IntKind.wrap, IntKind.bits, IntKind.signed]; omega
        have hpl : p ≤ l.length := by omega
        by_cases hk1 : gk = 0
        · subst hk1
          obtain rfl : n = c := by omega
          have hn3 : n ≤ 3 := by omega
          have hfp : f ≤ p := by omega
          by_cases hA : n = m
          · have hn1 : ¬ (n : Int) < (m : Int) := by omega
            subst hA
            by_cases hm0 : n = 0
            · have hE : s2.toList.isEmpty = true := by rw [hempty.out]; simpa using hm0
              have hne : t ≠ wl ∨ wl = [] := .inr (List.eq_nil_of_length_eq_zero (by rw [hm.out]; exact hm0))
              have hnx := hnext.out hne
              have hmx := hmax.out
              rw [hm0, Nat.max_zero] at hmx
              have hn0 : ¬ (0 : Int) < (n : Int) := by omega
              replace hm0 := Lib.hid hm0
              replace hnx := Lib.hid hnx
              replace hmx := Lib.hid hmx
              clear hne
              have hbw2 : ∀ q, Below w0.heap.size w0 (wr.drewN q) := fun q => hbw.trans (Drawn.below ⟨q, rfl⟩ _)
              go_wp2_with fail
              go_quiet (fail)
              go_wp2
              go_roundg (g1 - 1)
              case measure => omega
              case rel => exact ⟨i + 1, by go_num, by omega, by first | (rw [hmx.out]; go_num) | go_num, hnx.out, hbw2 _⟩
            · have hE : s2.toList.isEmpty = false := by rw [hempty.out]; simpa using hm0
              have hn0 : (0 : Int) < (n : Int) := by omega
              have hmx : max ((f : Int) + ((maxW t i : Nat) : Int)) (p : Int) = (f : Int) + ((maxW t (i + 1) : Nat) : Int) := by rw [hmax.out]; omega
              by_cases hfe : f + n = l.length
              · have hfe' : (p : Int) = (l.length : Int) := by omega
                have htw : t = wl := lcp_all t wl (by rw [hc.out, hm.out]) (by rw [hm.out]; omega)
                have hne0 : t ≠ [] := fun e => hm0 (by rw [← hm.out, ← htw, e]; rfl)
                obtain ⟨hk1, hk2⟩ := wordK_hit hne0 (by rw [htw, hwl.out]) hi5
                have hk0 : wordK t ≠ 0 := by omega
                replace hk1 := Lib.hid hk1
                replace hk0 := Lib.hid hk0
                replace htw := Lib.hid htw
                replace hne0 := Lib.hid hne0
                replace hmx := Lib.hid hmx
                have hbw2 : ∀ q, Below w.heap.size w (wr.drewN q) := fun q => hfin.trans (Drawn.below ⟨q, rfl⟩ _)
                go_wp2_with fail
                go_quiet (fail)
                go_wp2
                go_ret3
                exact ⟨.inl ⟨hk0.out, by rw [hk1.out]; rfl⟩, hbw2 _⟩
              · have hfe' : ((p : Int) == (l.length : Int)) = false := by simp; omega
                have hnx := hnext.out (.inl (fun e => hfe (by have : t.length = wl.length := by rw [e]
                                                              rw [hm.out] at this; omega)))
                replace hnx := Lib.hid hnx
                have hbw2 : ∀ q, Below w0.heap.size w0 (wr.drewN q) := fun q => hbw.trans (Drawn.below ⟨q, rfl⟩ _)
                go_wp2_with fail
                go_quiet (fail)
                go_wp2
                go_roundg (g1 - 1)
                case measure => omega
                case rel => exact ⟨i + 1, by go_num, by omega, by first | (rw [hmx.out]; go_num) | go_num, hnx.out, hbw2 _⟩
          · have hn1 : (n : Int) < (m : Int) := by omega
            have hnm : ((n : Int) == (m : Int)) = false := by simp; omega
            have hnx := hnext.out (.inl (fun e => hA (by rw [← hc.out, ← hm.out, e, lcp_self])))
            have hE : s2.toList.isEmpty = false := by rw [hempty.out]; simp; omega
            have hmx : max ((f : Int) + ((maxW t i : Nat) : Int)) (p : Int) = (f : Int) + ((maxW t (i + 1) : Nat) : Int) := by rw [hmax.out]; omega
            have hmx0 : n = 0 → maxW t (i + 1) = maxW t i := fun e => by rw [hmax.out, e]; omega
            replace hnx := Lib.hid hnx
            replace hmx0 := Lib.hid hmx0
            by_cases hfe : f + n = l.length
            · have hn2 : decide (p < l.length) = false := by rw [decide_eq_false]; omega
              replace hfe := Lib.hid hfe
              by_cases hm0 : n = 0
              · have hn0 : ¬ (0 : Int) < (n : Int) := by omega
                have hmx := Lib.hid (hmx0.out hm0)
                replace hm0 := Lib.hid hm0
                have hbw2 : ∀ q, Below w0.heap.size w0 (wr.drewN q) := fun q => hbw.trans (Drawn.below ⟨q, rfl⟩ _)
                go_wp2_with fail
                go_quiet (fail)
                go_wp2
                go_roundg (g1 - 1)
                case measure => omega
                case rel => exact ⟨i + 1, by go_num, by omega, by first | (rw [hmx.out]; go_num) | go_num, hnx.out, hbw2 _⟩
              · have hn0 : (0 : Int) < (n : Int) := by omega
                have hbw2 : ∀ q, Below w0.heap.size w0 (wr.drewN q) := fun q => hbw.trans (Drawn.below ⟨q, rfl⟩ _)
                go_wp2_with fail
                go_quiet (fail)
                go_wp2
                go_roundg (g1 - 1)
                case measure => omega
                case rel => exact ⟨i + 1, by go_num, by omega, by first | (rw [hmx.out]; go_num) | go_num, hnx.out, hbw2 _⟩
            · have hn2 : (p : Int) < (l.length : Int) := by omega
              have hg1 := hget.out n (by rw [hsz]; omega)
              simp only [hp] at hg1
              have hg2 := hget2.out n (by rw [hsz2]; omega)
              have hdf := hstop.out (by omega) (by omega)
              obtain ⟨x, hx⟩ : ∃ x, t.getD n 0 = x := ⟨_, rfl⟩
              obtain ⟨y, hy⟩ : ∃ x, wl.getD n 0 = x := ⟨_, rfl⟩
              rw [hx] at hg1 hdf
              rw [hy] at hg2 hdf
              have hxy : ((x.toNat : Int) == (y.toNat : Int)) = false := by
                have : x.toNat ≠ y.toNat := fun e => hdf (UInt8.toNat_inj.1 e)
                simp; omega
              replace hx := Lib.hid hx
              replace hy := Lib.hid hy
              replace hfe := Lib.hid hfe
              replace hdf := Lib.hid hdf
              replace hA := Lib.hid hA
              by_cases hm0 : n = 0
              · have hn0 : ¬ (0 : Int) < (n : Int) := by omega
                have hmx := Lib.hid (hmx0.out hm0)
                replace hm0 := Lib.hid hm0
                have hbw2 : ∀ q, Below w0.heap.size w0 (wr.drewN q) := fun q => hbw.trans (Drawn.below ⟨q, rfl⟩ _)
                go_wp2_with fail
                go_quiet (fail)
                go_wp2
                go_roundg (g1 - 1)
                case measure => omega
                case rel => exact ⟨i + 1, by go_num, by omega, by first | (rw [hmx.out]; go_num) | go_num, hnx.out, hbw2 _⟩
              · have hn0 : (0 : Int) < (n : Int) := by omega
                have hbw2 : ∀ q, Below w0.heap.size w0 (wr.drewN q) := fun q => hbw.trans (Drawn.below ⟨q, rfl⟩ _)
                go_wp2_with fail
                go_quiet (fail)
                go_wp2
                go_roundg (g1 - 1)
                case measure => omega
                case rel => exact ⟨i + 1, by go_num, by omega, by first | (rw [hmx.out]; go_num) | go_num, hnx.out, hbw2 _⟩
        · have hn1 : (n : Int) < (m : Int) := by omega
          have hn2 : (p : Int) < (l.length : Int) := by omega
          have hg1 := hget.out n (by rw [hsz]; omega)
          simp only [hp] at hg1
          have hg2 := hget2.out n (by rw [hsz2]; omega)
          rw [hsame.out n (by omega)] at hg1
          obtain ⟨y, hy⟩ : ∃ x, wl.getD n 0 = x := ⟨_, rfl⟩
          rw [hy] at hg1 hg2
          replace hy := Lib.hid hy
          have hbw2 : ∀ q, Below w0.heap.size w0 (wr.drewN q) := fun q => hbw.trans (Drawn.below ⟨q, rfl⟩ _)
          have hn3 : n ≤ 3 := by omega
          go_wp2_with fail
          go_quiet (fail)
          go_wp2
          go_roundg (gk - 1)
          case measure => omega
          case rel => exact ⟨n + 1, by go_num, by omega, hbw2 _⟩
end Go.Proofs.YtdlkfnkmdlcekaaGreatDoor
namespace Go.Proofs.YtdlkfnkmdlcekaaGreatDoor
open Go.RowKit Go.Cal
/-- As pItem; the digits lie in memory from block base on. -/
def pItemN (base : Nat) (v : Value) (it : Cal.Item) (w : World) : Prop :=
  ∃ (A : Option Addr) (c : Nat) (zs : List Nat), v = .agg #[.int .i64 (it.kind : Nat), .bool it.neg, .slice A zs.length c, .int .i64 it.k, .int .i64 it.big, .bool it.cut] ∧ RdU w w.heap.size A zs ∧ zs.length ≤ c ∧ c ≤ maxLen ∧ zs.length ≤ 2000 ∧ Nrm zs it.d ∧ (zs = [] ∨ ∃ b off, A = some ⟨b, off, none⟩ ∧ base ≤ b)
theorem pItemN.nil (base kind : Nat) (neg : Bool) (k big : Int) (cut : Bool) (w : World) : pItemN base (.agg #[.int .i64 (kind : Nat), .bool neg, .slice none 0 0, .int .i64 k, .int .i64 big, .bool cut]) ⟨kind, neg, 0, k, big, cut⟩ w :=
  ⟨none, 0, [], rfl, .nil, Nat.le_refl _, by unfold maxLen; omega, by simp, .zero, .inl rfl⟩
theorem ssize_alloc1 (w : World) (o : Obj) : (w.alloc o).heap.size = w.heap.size + 1 := by simp
theorem trimL_any (l : List UInt8) (w : World) : Calls Tryz.prog 74 #[.string (strL l), .string ⟨#[48]⟩] w fun e w' => e = .returned (.string (strL (trL l))) ∧ w = w' := by
  refine (Tryz.strings_TrimLeft_one (strL l) 48 (by decide) w).mono ?_
  rintro e w' ⟨rfl, rfl⟩
  refine ⟨?_, rfl⟩
  congr 3
theorem trimR_any (l : List UInt8) (hl : l.length ≤ maxLen) (w : World) : Calls Tryz.prog 75 #[.string (strL l), .string ⟨#[48]⟩] w fun e w' => e = .returned (.string (strL (trR l))) ∧ w = w' := by
  refine (Tryz.strings_TrimRight_one (strL l) 48 (by decide) w (by rw [strL_size]; exact hl)).mono ?_
  rintro e w' ⟨rfl, rfl⟩
  refine ⟨?_, rfl⟩
  congr 3
theorem size_setCell (w : World) (p : Addr) (u : Value) : (w.setCell p u).heap.size = w.heap.size := by simp [World.setCell]
theorem RdU.apart {w : World} {B base : Nat} {A : Option Addr} {zs : List Nat} {p : Addr} {u : Value} (h : RdU w B A zs) (hn : zs = [] ∨ ∃ b off, A = some ⟨b, off, none⟩ ∧ base ≤ b) (hp : p.block < base) : RdU (w.setCell p u) B A zs := by
  refine ⟨h.place, fun b off e i hi => ?_⟩
  rcases hn with rfl | ⟨b', off', e', hb⟩
  · simp at hi
  · rw [e] at e'
    injection e' with e'
    injection e' with e1 e2
    subst e1
    rw [World.cell?_setCell_other _ _ _ _ (fun e3 => by have := congrArg Addr.block e3; simp at this; omega)]
    exact h.cells b off e i hi
theorem parse_f (w : World) (s : ByteArray) (hs : POk s.data.toList) : Calls Tryz.prog 76 #[.string s] w fun e w' =>
    ∃ (A : Option Addr) (c : Nat) (zs : List Nat), e = .returned (.tuple #[.slice A zs.length c, .bool true]) ∧ RdU w' w'.heap.size A zs ∧ zs.length ≤ c ∧ c ≤ maxLen ∧ Nrm zs (numV s.data.toList) ∧ (zs = [] ∨ ∃ b off, A = some ⟨b, off, none⟩ ∧ w.heap.size ≤ b) ∧ Below w.heap.size w w' :=
  (parse_any s w hs).mono fun _ _ ⟨⟨A, c, zs, he, g, n⟩, hb⟩ => ⟨A, c, zs, he, g.rd, g.cap, g.small, n, g.own.imp id fun ⟨b, off, e, h, _⟩ => ⟨b, off, e, h⟩, hb⟩
theorem len_2000 {zs : List Nat} {N n k : Nat} (h : Nrm zs N) (hN : N < 10 ^ n) (hn : n ≤ k) : zs.length ≤ k := by
  refine h.length_le (Nat.lt_of_lt_of_le hN (Nat.le_trans (Nat.pow_le_pow_left (show 10 ≤ 18446744073709551616 by omega) n) (Nat.pow_le_pow_right (by omega) hn)))
theorem pOk_cut {b : List UInt8} (h3 : 1990 < b.length) (hd : ∀ c ∈ b, isDig c = true) (hh : b.head? ≠ some 48) : POk (strL (b.take 1990 ++ [49])).data.toList := by
  show POk (b.take 1990 ++ [49])
  have hl : (b.take 1990 ++ [49]).length = 1991 := by simp; omega
  refine ⟨by simp, by omega, fun e => ?_, dig_app (fun c hc => hd c (List.mem_of_mem_take hc)) (fun c hc => by simp at hc; subst hc; decide)⟩
  exfalso
  cases b with
  | nil => simp at h3
  | cons x b => exact hh (by simpa using e)
set_option maxRecDepth 100000 in
set_option maxHeartbeats 1000000 in
theorem sitem_any (ds : List UInt8) (hd : ∀ c ∈ ds, isDig c = true) (hl : ds.length ≤ 1099511627776) (k : Int) (hk : -4503599627370496 ≤ k ∧ k ≤ 4503599627370496) (w : World) :
    Calls Tryz.prog 64 #[.string (strL ds), .int .i64 k] w fun e w' => ∃ v, e = .returned v ∧ pItemN w.heap.size v (itemV false ds k) w' ∧ Below w.heap.size w w' := by
  obtain ⟨a, ha⟩ : ∃ a, trL ds = a := ⟨_, rfl⟩
  obtain ⟨b, hb⟩ : ∃ b, trR a = b := ⟨_, rfl⟩
  have htl := fun w => trimL_any ds w
  have htr := fun h w => trimR_any a h w
  have hla : a.length ≤ ds.length := by rw [← ha]; exact (trL_suffix ds).length_le
  have hlb : b.length ≤ a.length := by rw [← hb]; exact (trR_prefix a).length_le
  obtain ⟨k1, hk1⟩ : ∃ x, k + ((a.length : Int) - (b.length : Int)) = x := ⟨_, rfl⟩
  obtain ⟨tp, htp⟩ : ∃ x, (b.length : Int) + k1 - 1 = x := ⟨_, rfl⟩
  have hI : itemV false ds k = if b = [] then ⟨1, false, 0, 0, 0, false⟩ else if 1000 ≤ tp then ⟨1, false, 0, 0, 1, false⟩ else if tp < -1000 then ⟨1, false, 0, 0, -1, false⟩
      else if 1990 < b.length then ⟨1, false, numV (b.take 1990 ++ [49]), k1 + ((b.length : Int) - 1991), 0, true⟩ else ⟨1, false, numV b, k1, 0, false⟩ := by
    unfold itemV
    simp only [ha, hb, hk1, htp]
  have hbd : ∀ c ∈ b, isDig c = true := fun c hc => by
    have h1 : c ∈ a := (hb ▸ trR_prefix a : b <+: a).subset hc
    exact hd c ((ha ▸ trL_suffix ds : a <:+ ds).subset h1)
  have hbh : b ≠ [] → b.head? ≠ some 48 := fun h0 h => by
    obtain ⟨r, hr⟩ : ∃ r, a = b ++ r := by
      obtain ⟨r, hr⟩ := (hb ▸ trR_prefix a : b <+: a)
      exact ⟨r, hr.symm⟩
    have h1 := trL_head ds
    rw [ha, hr] at h1
    cases b with
    | nil => exact h0 rfl
    | cons x b => exact h1 (by simpa using h)
  rw [ha] at htl
  rw [hb] at htr
  replace htl := Lib.hid htl
  replace htr := Lib.hid htr
  replace hI := Lib.hid hI
  replace hbd := Lib.hid hbd
  replace hbh := Lib.hid hbh
  replace ha := Lib.hid ha
  replace hb := Lib.hid hb
  go_enter Tryz.func64, Tryz.ntmps64
  go_wp2_with fail
  refine (htl.out _).mono ?_
  rintro e w1 ⟨rfl, rfl⟩
  go_wp2_with fail
  refine (htr.out (by unfold maxLen; omega) _).mono ?_
  rintro e w1 ⟨rfl, rfl⟩
  have hsa := strL_size a
  have hsb := strL_size b
  have hE : (strL b).toList.isEmpty = b.isEmpty := by unfold strL; rw [ByteArray.toList_mk]
  have hbw : Below w.heap.size w ((w.alloc (.cells #[.int .i64 0, .bool false, .slice none 0 0, .int .i64 0, .int .i64 0, .bool false] 63)).alloc (.cells #[.int .i64 1, .bool false, .slice none 0 0, .int .i64 0, .int .i64 0, .bool false] 63)) := ((Below.refl _ _).alloc (Nat.le_refl _) _).alloc (by simp) _
  have hwk : IntKind.i64.wrap (k + ((a.length : Int) - (b.length : Int))) = k1 := by rw [hk1]; simp [IntKind.wrap, IntKind.bits, IntKind.signed]; omega
  have hwt : IntKind.i64.wrap ((b.length : Int) + k1) = (b.length : Int) + k1 := by simp [IntKind.wrap, IntKind.bits, IntKind.signed]; omega
  have hwt2 : IntKind.i64.wrap ((b.length : Int) + k1 - 1) = tp := by rw [htp]; simp [IntKind.wrap, IntKind.bits, IntKind.signed]; omega
  by_cases hb0 : b = []
  · have hE1 : (strL b).toList.isEmpty = true := by rw [hE, hb0]; rfl
    replace hb0 := Lib.hid hb0
    clear hE
    go_wp2
    refine bodyPost_ret (v := .agg #[.int .i64 1, .bool false, .slice none 0 0, .int .i64 0, .int .i64 0, .bool false]) (by simp [results, Tryz.results64, go_sem]) rfl ⟨_, rfl, ?_, ?_⟩
    · rw [hI.out, if_pos hb0.out]; exact pItemN.nil _ 1 false _ _ _ _
    · exact ((Below.refl _ _).alloc (Nat.le_refl _) _).alloc (by simp) _
  · have hE1 : (strL b).toList.isEmpty = false := by rw [hE]; simpa using hb0
    clear hE
    replace hb0 := Lib.hid hb0
    by_cases h1 : 1000 ≤ tp
    · go_wp2
      refine bodyPost_ret (v := .agg #[.int .i64 1, .bool false, .slice none 0 0, .int .i64 0, .int .i64 1, .bool false]) (by simp [results, Tryz.results64, go_sem]) rfl ⟨_, rfl, ?_, ?_⟩
      · rw [hI.out, if_neg hb0.out, if_pos h1]; exact pItemN.nil _ 1 false _ _ _ _
      · exact ((Below.refl _ _).alloc (Nat.le_refl _) _).alloc (by simp) _
    · by_cases h2 : tp < -1000
      · go_wp2
        refine bodyPost_ret (v := .agg #[.int .i64 1, .bool false, .slice none 0 0, .int .i64 0, .int .i64 (-1), .bool false]) (by simp [results, Tryz.results64, go_sem]) rfl ⟨_, rfl, ?_, ?_⟩
        · rw [hI.out, if_neg hb0.out, if_neg (by omega), if_pos (by omega)]; exact pItemN.nil _ 1 false _ _ _ _
        · exact ((Below.refl _ _).alloc (Nat.le_refl _) _).alloc (by simp) _
      · by_cases h3 : 1990 < b.length
        · have hP := pOk_cut (by omega) hbd.out (hbh.out hb0.out)
          have hpar := fun w => parse_f w (strL (b.take 1990 ++ [49])) hP
          have hext : (strL b).extract 0 1990 ++ ⟨#[49]⟩ = strL (b.take 1990 ++ [49]) := by
            unfold strL
            apply ByteArray.ext
            apply Array.toList_inj.1
            simp
          have hlen : (b.take 1990 ++ [49]).length ≤ 2000 := by simp; omega
          have hx1 : ((strL b).extract 0 1990).size = 1990 := by rw [ByteArray.size_extract, strL_size]; omega
          have hdc : ∀ c ∈ b.take 1990 ++ [49], isDig c = true := dig_app (fun c hc => hbd.out c (List.mem_of_mem_take hc)) (fun c hc => by simp at hc; subst hc; decide)
          have hkc : k1 + ((b.length : Int) - 1990 - 1) = k1 + ((b.length : Int) - 1991) := by omega
          have hbw0 : Below w.heap.size w ((w.alloc (.cells #[.int .i64 0, .bool false, .slice none 0 0, .int .i64 0, .int .i64 0, .bool false] 63)).alloc (.cells #[.int .i64 1, .bool false, .slice none 0 0, .int .i64 0, .int .i64 0, .bool true] 63)) := ((Below.refl _ _).alloc (Nat.le_refl _) _).alloc (by simp) _
          replace hpar := Lib.hid hpar
          replace hdc := Lib.hid hdc
          go_wp2_with fail
          refine (hpar.out _).mono ?_
          rintro e w2 ⟨A, c, zs, rfl, hr, h1c, h2c, hn, hnew, hb2⟩
          obtain ⟨hc, hf⟩ := bcell hb2
          simp only [ssize_alloc1] at hc hf
          have f4 : ∀ o, w2.frozen? ⟨w.heap.size, o, none⟩ = false := fun o => by rw [hf _ _ (by omega)]; simp
          have f5 : ∀ o, w2.frozen? ⟨w.heap.size + 1, o, none⟩ = false := fun o => by rw [hf _ _ (by omega)]; simp
          have c40 : w2.cell? ⟨w.heap.size, 0, none⟩ = some (.int .i64 0) := by rw [hc _ _ (by omega)]; simp
          have c41 : w2.cell? ⟨w.heap.size, 1, none⟩ = some (.bool false) := by rw [hc _ _ (by omega)]; simp
          have c42 : w2.cell? ⟨w.heap.size, 2, none⟩ = some (.slice none 0 0) := by rw [hc _ _ (by omega)]; simp
          have c43 : w2.cell? ⟨w.heap.size, 3, none⟩ = some (.int .i64 0) := by rw [hc _ _ (by omega)]; simp
          have c44 : w2.cell? ⟨w.heap.size, 4, none⟩ = some (.int .i64 0) := by rw [hc _ _ (by omega)]; simp
          have c45 : w2.cell? ⟨w.heap.size, 5, none⟩ = some (.bool false) := by rw [hc _ _ (by omega)]; simp
          have c50 : w2.cell? ⟨w.heap.size + 1, 0, none⟩ = some (.int .i64 1) := by rw [hc _ _ (by omega)]; simp
          have c51 : w2.cell? ⟨w.heap.size + 1, 1, none⟩ = some (.bool false) := by rw [hc _ _ (by omega)]; simp
          have c52 : w2.cell? ⟨w.heap.size + 1, 2, none⟩ = some (.slice none 0 0) := by rw [hc _ _ (by omega)]; simp
          have c53 : w2.cell? ⟨w.heap.size + 1, 3, none⟩ = some (.int .i64 0) := by rw [hc _ _ (by omega)]; simp
          have c54 : w2.cell? ⟨w.heap.size + 1, 4, none⟩ = some (.int .i64 0) := by rw [hc _ _ (by omega)]; simp
          have c55 : w2.cell? ⟨w.heap.size + 1, 5, none⟩ = some (.bool true) := by rw [hc _ _ (by omega)]; simp
          clear hc hf
          go_wp2
          refine bodyPost_ret (v := .agg #[.int .i64 1, .bool false, .slice A zs.length c, .int .i64 (k1 + ((b.length : Int) - 1991)), .int .i64 0, .bool true]) (by simp [results, Tryz.results64, go_sem, c40, c41, c42, c43, c44, c45]) rfl ⟨_, rfl, ?_, ?_⟩
          · rw [hI.out, if_neg hb0.out, if_neg (by omega), if_neg (by omega), if_pos (by omega)]
            refine ⟨A, c, zs, rfl, ?_, h1c, h2c, ?_, hn, hnew.imp id (fun ⟨b, off, e, h⟩ => ⟨b, off, e, by simp at h; omega⟩)⟩
            · simp only [size_setCell]
              repeat (refine RdU.apart ?_ hnew (by simp; try omega))
              exact hr
            · exact len_2000 hn (numV_lt _ hdc.out) hlen
          · have hb3 := chain hbw0 hb2
            repeat (refine Below.setCell ?_ (by first | exact Nat.le_refl _ | exact Nat.le_succ _) _)
            exact hb3
        · have hP : POk (strL b).data.toList := ⟨hb0.out, by show b.length ≤ 2000; omega, fun e => absurd e (hbh.out hb0.out), hbd.out⟩
          have hpar := fun w => parse_f w (strL b) hP
          have hbw0 : Below w.heap.size w ((w.alloc (.cells #[.int .i64 0, .bool false, .slice none 0 0, .int .i64 0, .int .i64 0, .bool false] 63)).alloc (.cells #[.int .i64 1, .bool false, .slice none 0 0, .int .i64 0, .int .i64 0, .bool false] 63)) := ((Below.refl _ _).alloc (Nat.le_refl _) _).alloc (by simp) _
          replace hpar := Lib.hid hpar
          go_wp2_with fail
          refine (hpar.out _).mono ?_
          rintro e w2 ⟨A, c, zs, rfl, hr, h1c, h2c, hn, hnew, hb2⟩
          obtain ⟨hc, hf⟩ := bcell hb2
          simp only [ssize_alloc1] at hc hf
          have f4 : ∀ o, w2.frozen? ⟨w.heap.size, o, none⟩ = false := fun o => by rw [hf _ _ (by omega)]; simp
          have f5 : ∀ o, w2.frozen? ⟨w.heap.size + 1, o, none⟩ = false := fun o => by rw [hf _ _ (by omega)]; simp
          have c40 : w2.cell? ⟨w.heap.size, 0, none⟩ = some (.int .i64 0) := by rw [hc _ _ (by omega)]; simp
          have c41 : w2.cell? ⟨w.heap.size, 1, none⟩ = some (.bool false) := by rw [hc _ _ (by omega)]; simp
          have c42 : w2.cell? ⟨w.heap.size, 2, none⟩ = some (.slice none 0 0) := by rw [hc _ _ (by omega)]; simp
          have c43 : w2.cell? ⟨w.heap.size, 3, none⟩ = some (.int .i64 0) := by rw [hc _ _ (by omega)]; simp
          have c44 : w2.cell? ⟨w.heap.size, 4, none⟩ = some (.int .i64 0) := by rw [hc _ _ (by omega)]; simp
          have c45 : w2.cell? ⟨w.heap.size, 5, none⟩ = some (.bool false) := by rw [hc _ _ (by omega)]; simp
          have c50 : w2.cell? ⟨w.heap.size + 1, 0, none⟩ = some (.int .i64 1) := by rw [hc _ _ (by omega)]; simp
          have c51 : w2.cell? ⟨w.heap.size + 1, 1, none⟩ = some (.bool false) := by rw [hc _ _ (by omega)]; simp
          have c52 : w2.cell? ⟨w.heap.size + 1, 2, none⟩ = some (.slice none 0 0) := by rw [hc _ _ (by omega)]; simp
          have c53 : w2.cell? ⟨w.heap.size + 1, 3, none⟩ = some (.int .i64 0) := by rw [hc _ _ (by omega)]; simp
          have c54 : w2.cell? ⟨w.heap.size + 1, 4, none⟩ = some (.int .i64 0) := by rw [hc _ _ (by omega)]; simp
          have c55 : w2.cell? ⟨w.heap.size + 1, 5, none⟩ = some (.bool false) := by rw [hc _ _ (by omega)]; simp
          clear hc hf
          go_wp2
          refine bodyPost_ret (v := .agg #[.int .i64 1, .bool false, .slice A zs.length c, .int .i64 k1, .int .i64 0, .bool false]) (by simp [results, Tryz.results64, go_sem, c40, c41, c42, c43, c44, c45]) rfl ⟨_, rfl, ?_, ?_⟩
          · rw [hI.out, if_neg hb0.out, if_neg (by omega), if_neg (by omega), if_neg (by omega)]
            refine ⟨A, c, zs, rfl, ?_, h1c, h2c, ?_, hn, hnew.imp id (fun ⟨b, off, e, h⟩ => ⟨b, off, e, by simp at h; omega⟩)⟩
            · simp only [size_setCell]
              repeat (refine RdU.apart ?_ hnew (by simp; try omega))
              exact hr
            · exact len_2000 hn (numV_lt _ hbd.out) (show b.length ≤ 2000 by omega)
          · have hb3 := chain hbw0 hb2
            repeat (refine Below.setCell ?_ (by first | exact Nat.le_refl _ | exact Nat.le_succ _) _)
            exact hb3
end Go.Proofs.YtdlkfnkmdlcekaaGreatDoor
