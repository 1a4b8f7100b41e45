/- The document's half words, last part: half words as words. Conditions: a number's half words are counted. -/
import Derived.Test.YtncfbleeidjflaaGreatDoorTx14
namespace Go.Cal
/-- Half words as words. -/
def wds (H : Nat) : List Nat → List Nat
  | [] => []
  | [x] => [x]
  | x :: y :: l => (x + y * H) :: wds H l
theorem wds_val (H : Nat) : ∀ l, vl (H * H) (wds H l) = vl H l
  | [] => rfl
  | [x] => by simp [wds, vl]
  | x :: y :: l => by
    have ih := wds_val H l
    simp only [wds, vl]
    rw [ih]
    simp only [Nat.mul_add, Nat.mul_assoc, Nat.mul_comm y H, Nat.add_assoc]
theorem wds_len (H : Nat) : ∀ l, (wds H l).length ≤ l.length
  | [] => Nat.le_refl _
  | [x] => Nat.le_refl _
  | x :: y :: l => by have := wds_len H l; simp [wds]; omega
theorem wds_dig {H : Nat} (hH : 0 < H) : ∀ {l : List Nat}, Dig H l → Dig (H * H) (wds H l)
  | [], _ => fun x hx => by simp [wds] at hx
  | [x], h => fun z hz => by
    have hx := h x (by simp)
    simp [wds] at hz
    subst hz
    exact Nat.lt_of_lt_of_le hx (Nat.le_mul_of_pos_right _ hH)
  | x :: y :: l, h => fun z hz => by
    have hx := h x (by simp)
    have hy := h y (by simp)
    simp only [wds, List.mem_cons] at hz
    rcases hz with rfl | hz
    · have : (y + 1) * H ≤ H * H := Nat.mul_le_mul_right _ hy
      rw [Nat.add_mul, Nat.one_mul] at this
      omega
    · exact wds_dig hH (fun q hq => h q (by simp [hq])) z hz
theorem wds_even (H : Nat) : ∀ (j : Nat) (l m : List Nat), l.length = 2 * j → wds H (l ++ m) = wds H l ++ wds H m
  | 0, l, m, h => by
    have : l = [] := List.length_eq_zero_iff.1 (by omega)
    subst this; rfl
  | j + 1, x :: y :: l, m, h => by
    have ih := wds_even H j l m (by simp at h; omega)
    simp only [List.cons_append, wds, ih]
theorem wds_two (H : Nat) (l : List Nat) (j : Nat) (h : 2 * j + 1 < l.length) : wds H (l.take (2 * j)) ++ [l.getD (2 * j) 0 + l.getD (2 * j + 1) 0 * H] = wds H (l.take (2 * (j + 1))) := by
  have e : l.take (2 * (j + 1)) = l.take (2 * j) ++ [l.getD (2 * j) 0, l.getD (2 * j + 1) 0] := by
    have h1 : 2 * (j + 1) = 2 * j + 1 + 1 := by omega
    rw [h1, List.take_succ_eq_append_getElem (by omega), List.take_succ_eq_append_getElem (by omega), List.append_assoc]
    simp [List.getD_eq_getElem?_getD, List.getElem?_eq_getElem (show 2 * j < l.length by omega), List.getElem?_eq_getElem h]
  rw [e, wds_even H j _ _ (by rw [List.length_take]; omega)]
  rfl
theorem wds_one (H : Nat) (l : List Nat) (j : Nat) (h : 2 * j + 1 = l.length) : wds H (l.take (2 * j)) ++ [l.getD (2 * j) 0] = wds H (l.take (2 * (j + 1))) := by
  have e : l.take (2 * (j + 1)) = l.take (2 * j) ++ [l.getD (2 * j) 0] := by
    rw [List.take_of_length_le (by omega)]
    have h1 : l = l.take (2 * j + 1) := (List.take_of_length_le (by omega)).symm
    conv => lhs; rw [h1]
    rw [List.take_succ_eq_append_getElem (by omega)]
    simp [List.getD_eq_getElem?_getD, List.getElem?_eq_getElem (show 2 * j < l.length by omega)]
  rw [e, wds_even H j _ _ (by rw [List.length_take]; omega)]
  rfl
end Go.Cal
namespace Go.Proofs.YtncfbleeidjflaaGreatDoor
open Go.RowKit Go.Cal
/-- What Words tells: a number in words, in new memory. -/
def TellsW (w : World) (N : Nat) (e : Ending) (w' : World) : Prop :=
  ∃ (A : Option Addr) (c : Nat) (zs : List Nat), e = .returned (.slice A zs.length c) ∧ RdU w' w'.heap.size A zs ∧ zs.length ≤ c ∧ c ≤ maxLen ∧ Nrm zs N ∧ (zs = [] ∨ ∃ b off, A = some ⟨b, off, none⟩ ∧ w.heap.size ≤ b) ∧ Below w.heap.size w w'
theorem trim_words {w wr : World} {n N : Nat} {v : Value} {xs : List Nat} (hown : wr.ownsRow w.heap.size 22 1 v n (lU xs)) (hn : n = xs.length) (hb : Below w.heap.size w wr) (hl : xs.length ≤ 1099511627776) (hd : Dig 18446744073709551616 xs) (hv : vl 18446744073709551616 xs = N) :
    Calls Tryz.prog 124 #[v] wr (TellsW w N) := by
  obtain ⟨A, c, rfl, hr, h1, h2, h3, h4⟩ := rd_of_own hown hn
  refine (rtrim_any c wr hr h1 hl h3).mono ?_
  rintro e w1 ⟨⟨zs, rfl, ⟨m, rfl⟩, ht, hv'⟩, rfl⟩
  have hz : Nrm (xs.take m) N := ⟨dig_take hd m, ht, (hv' _).trans hv⟩
  refine ⟨A, c, xs.take m, rfl, hr.take m, by rw [List.length_take]; omega, h2, hz, ?_, hb⟩
  rcases (hr.take m).place with h | ⟨b, off, e, _⟩
  · exact .inl h
  · exact .inr ⟨b, off, e, h4 _ e⟩
set_option maxRecDepth 100000 in
set_option maxHeartbeats 2000000 in
theorem words_any {v1 : Value} {k X : Nat} (w : World) (h1 : IsH w v1 k X) (b1 : k ≤ 1048576) : Calls Tryz.prog 53 #[v1] w (TellsW w X) := by
  obtain ⟨A, c, xs, rfl, hr, hc, hm, hl, hx⟩ := h1
  obtain ⟨i0, hi, hi0, hi1, hi2⟩ := info_parts info_u64
  have hXv := wds_val 4294967296 xs
  have hXd := wds_dig (H := 4294967296) (by omega) hx.dig
  have hXl := wds_len 4294967296 xs
  rw [hx.val] at hXv
  replace hXv : vl 18446744073709551616 (wds 4294967296 xs) = X := hXv
  replace hXd : Dig 18446744073709551616 (wds 4294967296 xs) := hXd
  replace hXv := Lib.hid hXv
  replace hXd := Lib.hid hXd
  go_enter Tryz.func53, Tryz.ntmps53
  go_wp2
  go_loopg [3, 4, 5] (xs.length + 1) (fun g ov iv _ wr => ∃ i j : Nat, iv = .int .i64 i ∧ i = 2 * j ∧ g = xs.length + 1 - i ∧ i ≤ xs.length + 1 ∧ wr.ownsRow w.heap.size 22 1 ov j (lU (wds 4294967296 (xs.take i))) ∧ Below w.heap.size w wr)
  case atStart => exact ⟨0, 0, rfl, rfl, by omega, by omega, by rw [List.take_zero]; exact World.ownsRow_lit w #[] 0 (Nat.le_refl _) (by unfold maxLen; omega) rfl, (Below.refl _ _).alloc (Nat.le_refl _) _⟩
  case round =>
    obtain ⟨i, j, rfl, hij, hgk, hil, hown, hbw⟩ := hrel
    have hzw := hbw.size
    by_cases hend : xs.length ≤ i
    · rw [List.take_of_length_le hend] at hown
      have hjl : j = (wds 4294967296 xs).length := by
        have hlen := hown.1
        rw [lU_len] at hlen
        omega
      have ht := trim_words hown hjl hbw (by omega) hXd.out hXv.out
      have n1 : ¬ (i : Int) < (xs.length : Int) := by omega
      replace ht := Lib.hid ht
      clear hown
      go_wp2_with fail
      refine ht.out.mono ?_
      rintro e w1 ⟨A', c', zs, rfl, g1, g2, g3, g4, g5, g6⟩
      go_wp2
      go_ret
      exact ⟨A', c', zs, rfl, g1, g2, g3, g4, g5, g6⟩
    · have hix : i < xs.length := by omega
      have hjb : j ≤ 2000000 := by omega
      have hii : (i : Int) < (xs.length : Int) := by omega
      obtain ⟨b, off, rfl, hb, hcx⟩ := (hr.below hbw).at hix
      have hx0 := hcx i hix
      obtain ⟨x, hxe⟩ : ∃ x, xs.getD i 0 = x := ⟨_, rfl⟩
      have bx : x < 4294967296 := hxe ▸ dig_getD (by omega) hx.dig i
      rw [hxe] at hx0
      by_cases hi1x : i + 1 < xs.length
      · have hii1 : (i : Int) + 1 < (xs.length : Int) := by omega
        have hy0 := hcx (i + 1) hi1x
        obtain ⟨y, hye⟩ : ∃ x, xs.getD (i + 1) 0 = x := ⟨_, rfl⟩
        have by' : y < 4294967296 := hye ▸ dig_getD (by omega) hx.dig (i + 1)
        rw [hye] at hy0
        have hts := wds_two 4294967296 xs j (by omega)
        rw [← hij, hxe, hye, show 2 * (j + 1) = i + 2 by omega] at hts
        obtain ⟨z, hz⟩ : ∃ z, x + y * 4294967296 = z := ⟨_, rfl⟩
        have hzi : (x : Int) + (y : Int) * 4294967296 = (z : Int) := by omega
        have hzb : z < 18446744073709551616 := by omega
        rw [hz] at hts
        replace hts := Lib.hid hts
        replace hxe := Lib.hid hxe
        replace hye := Lib.hid hye
        replace hz := Lib.hid hz
        replace hij := Lib.hid hij
        clear hcx hr
        go_wp2_with (at_builtin; refine wpList_append_own _ rfl _ _ 32 rfl w.heap.size 22 i0 (.int .u64 0) 1 8 under_u64s hi hi0 hi1 hi2 rfl (by decide) u3 j (lU (wds 4294967296 (xs.take i))) rfl (hown.alloc _) ⟨wr.heap.size, 0, none⟩ 1 1 [.int .u64 z] rfl rfl (one_cell wr 22 _) (fun u hu => by simp at hu; subst hu; rfl) (by unfold maxLen; omega) (by omega) (by simp; omega) ?_)
        intro v' w1 hown' hgr _
        rw [lU_snoc, hts.out] at hown'
        have hb2 := (hbw.alloc hzw (.cells #[.int .u64 (z : Int)] 22)).grown hgr (by simp; omega) (fun j hj => (hown.lt j hj).1)
        clear hown hgr
        go_wp2
        go_roundg (gk - 2)
        case measure => omega
        case rel => exact ⟨i + 2, j + 1, by go_num, by have := hij.out; omega, by omega, by omega, hown', hb2⟩
      · have hii1 : ¬ (i : Int) + 1 < (xs.length : Int) := by omega
        have hts := wds_one 4294967296 xs j (by omega)
        rw [← hij, hxe, show 2 * (j + 1) = i + 2 by omega] at hts
        replace hts := Lib.hid hts
        replace hxe := Lib.hid hxe
        replace hij := Lib.hid hij
        clear hcx hr
        go_wp2_with (at_builtin; refine wpList_append_own _ rfl _ _ 32 rfl w.heap.size 22 i0 (.int .u64 0) 1 8 under_u64s hi hi0 hi1 hi2 rfl (by decide) u3 j (lU (wds 4294967296 (xs.take i))) rfl (hown.alloc _) ⟨wr.heap.size, 0, none⟩ 1 1 [.int .u64 x] rfl rfl (one_cell wr 22 _) (fun u hu => by simp at hu; subst hu; rfl) (by unfold maxLen; omega) (by omega) (by simp; omega) ?_)
        intro v' w1 hown' hgr _
        rw [lU_snoc, hts.out] at hown'
        have hb2 := (hbw.alloc hzw (.cells #[.int .u64 (x : Int)] 22)).grown hgr (by simp; omega) (fun j hj => (hown.lt j hj).1)
        clear hown hgr
        go_wp2
        go_roundg (gk - 2)
        case measure => omega
        case rel => exact ⟨i + 2, j + 1, by go_num, by have := hij.out; omega, by omega, by omega, hown', hb2⟩
end Go.Proofs.YtncfbleeidjflaaGreatDoor
