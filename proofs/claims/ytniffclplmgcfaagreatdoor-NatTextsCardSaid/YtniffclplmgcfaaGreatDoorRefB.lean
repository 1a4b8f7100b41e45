/- The document's half words, second part: words as half words; sums, differences, order. Conditions: a number's half words are counted. -/
import Derived.Test.YtniffclplmgcfaaGreatDoorRefA
import Derived.Test.YtniffclplmgcfaaGreatDoorRefP
import Derived.Deep.AppendLies
namespace Go.Proofs.YtniffclplmgcfaaGreatDoor
open Go.RowKit Go.Cal
theorem one_cell (w : World) (t : TypeId) (v : Value) (j : Nat) (u : Value) (hj : [v][j]? = some u) : (w.alloc (.cells #[v] t)).cell? ((⟨w.heap.size, 0, none⟩ : Addr).add j) = some u := by
  rcases j with _ | j
  · simp at hj
    subst hj
    simp [Addr.add_lit]
  · simp at hj
theorem two_cells (w : World) (t : TypeId) (v v2 : Value) (j : Nat) (u : Value) (hj : [v, v2][j]? = some u) : (w.alloc (.cells #[v, v2] t)).cell? ((⟨w.heap.size, 0, none⟩ : Addr).add j) = some u := by
  rcases j with _ | _ | j
  · simp at hj
    subst hj
    simp [Addr.add_lit]
  · simp at hj
    subst hj
    simp [Addr.add_lit]
  · simp at hj
/-- A slice in memory that was not there. -/
def New (w : World) (v : Value) : Prop := ∀ A n c, v = .slice A n c → ∀ a, A = some a → w.heap.size ≤ a.block
/-- A row that the call has made, read. -/
theorem rd_of_own {w : World} {base n : Nat} {v : Value} {xs : List Nat} (h : w.ownsRow base 39 1 v n (lU xs)) (hn : n = xs.length) :
    ∃ A c, v = .slice A xs.length c ∧ RdU w w.heap.size A xs ∧ xs.length ≤ c ∧ c ≤ maxLen ∧ (A = none → c = 0) ∧ (∀ a, A = some a → base ≤ a.block) := by
  subst hn
  obtain ⟨_, ⟨rfl, h1⟩ | ⟨g, cap, cur, rfl, hg, hw, hn, hm, hs, ht⟩⟩ := h
  · obtain rfl := List.eq_nil_of_length_eq_zero h1
    exact ⟨none, 0, rfl, .nil, Nat.le_refl _, by unfold maxLen; omega, fun _ => rfl, fun a e => by cases e⟩
  · have hlt := (Array.getElem?_eq_some_iff.1 hw).1
    refine ⟨_, cap, rfl, ⟨.inr ⟨g, 0, rfl, hlt⟩, fun b off e j hj => ?_⟩, hn, hm, fun e => (by cases e), fun a e => by cases e; exact hg⟩
    injection e with e
    injection e with e1 e2
    subst e1; subst e2
    have e3 : cur.toList[j]? = some (.int .u64 ((xs.getD j 0 : Nat) : Int)) := by
      rw [← lU_at xs j hj, ← ht, List.getElem?_take_of_lt (by omega)]
    simp [World.cell?, hw, ← Array.getElem?_toList, e3]
theorem lU_snoc (xs : List Nat) (x : Nat) : lU xs ++ [.int .u64 (x : Int)] = lU (xs ++ [x]) := by simp [lU]
theorem lU_snoc2 (xs : List Nat) (x y : Nat) : lU xs ++ [.int .u64 (x : Int), .int .u64 (y : Int)] = lU (xs ++ [x, y]) := by simp [lU]
/-- A call tells one number in half words. -/
def TellsH (w : World) (k N : Nat) (e : Ending) (w' : World) : Prop := ∃ v, e = .returned v ∧ pH v k N w' ∧ Below w.heap.size w w' ∧ New w v
/-- The end of a call that hands back what Trim makes of its own row. -/
theorem trim_own {w wr : World} {n k N : Nat} {v : Value} {xs : List Nat} (hown : wr.ownsRow w.heap.size 39 1 v n (lU xs)) (hn : n = xs.length) (hb : Below w.heap.size w wr) (hl : xs.length ≤ 1099511627776) (hd : Dig 4294967296 xs) (hv : vl 4294967296 xs = N) (hk : N < 4294967296 ^ k) :
    Calls Tryz.prog 39 #[v] wr (TellsH w k N) := by
  obtain ⟨A, c, rfl, hr, h1, h2, h3, h4⟩ := rd_of_own hown hn
  refine (rtrim_any c wr hr h1 hl h3).mono ?_
  rintro e w1 ⟨⟨zs, rfl, ⟨m, rfl⟩, ht, hv'⟩, rfl⟩
  have hz : NrmH (xs.take m) N := ⟨dig_take hd m, ht, (hv' _).trans hv⟩
  exact ⟨_, rfl, ⟨A, c, xs.take m, rfl, hr.take m, by rw [List.length_take]; omega, ⟨h2, h3⟩, hz.length_le hk, hz⟩, hb, fun A' n' c' e a ha => by cases e; exact h4 a ha⟩
set_option maxRecDepth 100000 in
set_option maxHeartbeats 2000000 in
theorem halves_any {v1 : Value} {k X : Nat} (w : World) (h1 : IsN w v1 k X) (b1 : k ≤ 1048576) : Calls Tryz.prog 9 #[v1] w (TellsH w (2 * k) X) := by
  have hX := h1.lt
  obtain ⟨A, c, xs, rfl, hr, hc, hl, d, hv⟩ := h1
  obtain ⟨i0, hi, hi0, hi1, hi2⟩ := info_parts info_u64
  replace hv := Lib.hid hv
  replace hX := Lib.hid hX
  replace d := Lib.hid d
  go_enter Tryz.func9, Tryz.ntmps9
  go_wp2
  go_loopg [3, 4] xs.length (fun k ov iv wr => ∃ i : Nat, iv = .int .i64 i ∧ i + k = xs.length ∧ wr.ownsRow w.heap.size 39 1 ov (2 * i) (lU (halves 4294967296 (xs.take i))) ∧ Below w.heap.size w wr)
  case atStart => exact ⟨0, rfl, by omega, by rw [List.take_zero]; exact World.ownsRow_lit w #[] 0 (Nat.le_refl _) (by unfold maxLen; omega) rfl, (Below.refl _ _).alloc (Nat.le_refl _) _⟩
  case round =>
    obtain ⟨i, rfl, hik, hown, hbw⟩ := hrel
    have hzw := hbw.size
    by_cases h0 : gk = 0
    · subst h0
      have hi' : i = xs.length := by omega
      subst hi'
      rw [List.take_length] at hown
      have hvv : vl 4294967296 (halves 4294967296 xs) = X := by rw [halves_val, ← hv.out]
      have ht := trim_own (k := 2 * k) hown (by rw [halves_length]) hbw (by rw [halves_length]; omega) (halves_dig (by omega) d.out) hvv (by rw [Nat.pow_mul]; exact hX.out)
      replace ht := Lib.hid ht
      clear hown hvv
      go_wp2_with fail
      refine ht.out.mono ?_
      rintro e w1 ⟨u, rfl, hu, hb⟩
      go_wp2
      go_ret
      exact ⟨u, rfl, hu, hb⟩
    · have hix : i < xs.length := by omega
      have hii : (i : Int) < (xs.length : Int) := by omega
      obtain ⟨b, off, rfl, hb, hcx⟩ := (hr.below hbw).at hix
      have hx0 := hcx i hix
      have hts := take_snoc xs i hix
      obtain ⟨x, hx⟩ : ∃ x, xs.getD i 0 = x := ⟨_, rfl⟩
      rw [hx] at hx0 hts
      replace hts := Lib.hid hts
      replace hx := Lib.hid hx
      clear hcx hr
      have hxm : (x : Int).tmod 4294967296 = ((x % 4294967296 : Nat) : Int) := by rw [Int.tmod_eq_emod_of_nonneg (by omega)]; omega
      have hxd : ((x : Int) / 4294967296) = ((x / 4294967296 : Nat) : Int) := by omega
      obtain ⟨lo, hlo⟩ : ∃ l, x % 4294967296 = l := ⟨_, rfl⟩
      obtain ⟨hx2, hhi⟩ : ∃ l, x / 4294967296 = l := ⟨_, rfl⟩
      rw [hlo] at hxm
      rw [hhi] at hxd
      replace hlo := Lib.hid hlo
      replace hhi := Lib.hid hhi
      go_wp2_with fail
      go_region_law (refine step_append_lies _ rfl (.tmp 12) (.tmp 23) 22 rfl w.heap.size 39 i0 (.int .u64 0) 1 8 under_u64s hi hi0 hi1 hi2 rfl (by decide) u3 (2 * i) (lU (halves 4294967296 (xs.take i))) (by simp [Act.eval]) (hown.drew.alloc _) ⟨wr.heap.size, 0, none⟩ 2 2 [.int .u64 lo, .int .u64 hx2] (by simp [Act.eval]) rfl (two_cells wr.drew 39 _ _) (fun u hu => by simp at hu; rcases hu with rfl | rfl <;> rfl) (by omega) (by unfold maxLen; omega) (by omega) (by simp; omega) _ rfl (fun g cap w' hown' hgr _ _ => ?_))
      all_goals
        have hh : lU (halves 4294967296 (xs.take i)) ++ [.int .u64 (lo : Int), .int .u64 (hx2 : Int)] = lU (halves 4294967296 (xs.take (i + 1))) := by rw [hts.out, halves_snoc, lU_snoc2, hlo.out, hhi.out]
        rw [hh] at hown'
        have hb2 := ((hbw.drew).alloc hzw (.cells #[.int .u64 (lo : Int), .int .u64 (hx2 : Int)] 39)).grown hgr (by simp; omega) (fun j hj => (hown.lt j hj).1)
        clear hh hown hgr
        go_wp2
        go_roundg (gk - 1)
        case measure => omega
        case rel => exact ⟨i + 1, by go_num, by omega, hown', hb2⟩
end Go.Proofs.YtniffclplmgcfaaGreatDoor
