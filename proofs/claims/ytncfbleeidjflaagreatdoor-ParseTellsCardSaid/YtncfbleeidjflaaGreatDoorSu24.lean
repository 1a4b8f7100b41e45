/- Plain: a numeral made from its last digit on; a row turned round in place; bytes in memory. Conditions: none. -/
/- The document's Scan, first part: the state behind a byte. Conditions: none. -/
import Derived.Test.YtncfbleeidjflaaGreatDoorSu23
import Derived.Lib.SlBytesRow
import Derived.Test.YtncfbleeidjflaaGreatDoorSu04
namespace Go.Cal
open Go.RowKit
/-- Digits from the last one on: n of them are told, N is left. -/
structure DigR (X n N : Nat) (L : List UInt8) : Prop where
  len : L.length = n
  dig : ∀ c ∈ L, isDig c = true
  val : numV L.reverse + 10 ^ n * N = X
  top : n ≤ 1 ∨ 0 < N ∨ L.getLast? ≠ some 48
theorem DigR.start (X : Nat) : DigR X 0 X [] := ⟨rfl, fun c hc => by simp at hc, by simp [numV], .inl (by omega)⟩
theorem DigR.step {X n N : Nat} {L : List UInt8} (h : DigR X n N L) (hN : 0 < N ∨ n = 0) : DigR X (n + 1) (N / 10) (L ++ [UInt8.ofNat (48 + N % 10)]) := by
  have hm := Nat.mod_lt N (show 0 < 10 by omega)
  refine ⟨by simp [h.len], ?_, ?_, ?_⟩
  · intro c hc
    rcases List.mem_append.1 hc with hc | hc
    · exact h.dig c hc
    · rw [List.mem_singleton] at hc; subst hc; exact isDig_ofNat hm
  · have hv := h.val
    have e : (L ++ [UInt8.ofNat (48 + N % 10)]).reverse = [UInt8.ofNat (48 + N % 10)] ++ L.reverse := by simp
    rw [e, numV_append, List.length_reverse, h.len, Nat.pow_succ, Nat.mul_assoc]
    have e1 : numV [UInt8.ofNat (48 + N % 10)] = N % 10 := by
      show 0 * 10 + ((UInt8.ofNat (48 + N % 10)).toNat - 48) = _
      rw [digit_toNat hm]; omega
    rw [e1, Nat.mul_comm (N % 10), ← hv]
    have := Nat.div_add_mod N 10
    have h2 : 10 ^ n * N = 10 ^ n * (10 * (N / 10)) + 10 ^ n * (N % 10) := by rw [← Nat.mul_add, this]
    omega
  · rcases Nat.eq_zero_or_pos n with h0 | h0
    · exact .inl (by omega)
    · rcases Nat.eq_zero_or_pos (N / 10) with h1 | h1
      · refine .inr (.inr ?_)
        rw [List.getLast?_append]
        simp only [List.getLast?_singleton, Option.some_or, ne_eq, Option.some.injEq]
        intro e
        have := digit_toNat hm
        rw [e] at this
        have e48 : (48 : UInt8).toNat = 48 := rfl
        omega
      · exact .inr (.inl h1)
theorem DigR.done {X n : Nat} {L : List UInt8} (h : DigR X n 0 L) (hn : 0 < n) : Lib.decDigits X = L.reverse := by
  have hv := h.val
  rw [Nat.mul_zero, Nat.add_zero] at hv
  rw [← hv]
  refine dec_numV (fun e => by have := h.len; rw [List.reverse_eq_nil_iff.1 e] at this; simp at this; omega) (fun c hc => h.dig c (List.mem_reverse.1 hc)) (fun e => ?_)
  rw [List.head?_reverse] at e
  have hl := h.len
  rw [List.length_reverse, hl]
  rcases h.top with h1 | h1 | h1
  · omega
  · omega
  · exact absurd e h1
theorem DigR.few {X n N k : Nat} {L : List UInt8} (h : DigR X n N L) (hN : 0 < N) (hX : X < 2 ^ k) : n < k := by
  have hv := h.val
  rcases Nat.lt_or_ge n k with h1 | h1
  · exact h1
  · exfalso
    have h2 : 2 ^ k ≤ 2 ^ n := Nat.pow_le_pow_right (by omega) h1
    have h3 : 2 ^ n ≤ 10 ^ n := Nat.pow_le_pow_left (by omega) n
    have h4 : 10 ^ n * 1 ≤ 10 ^ n * N := Nat.mul_le_mul_left _ hN
    omega
/-- A row being turned round: i at each end are. -/
structure TurnR (L M : List UInt8) (i : Nat) : Prop where
  len : M.length = L.length
  at' : ∀ j, j < L.length → M.getD j 0 = if j < i ∨ L.length - i ≤ j then L.getD (L.length - 1 - j) 0 else L.getD j 0
theorem TurnR.start (L : List UInt8) : TurnR L L 0 := ⟨rfl, fun j hj => by rw [if_neg (by omega)]⟩
theorem getB_set_ne {xs : List UInt8} {k i : Nat} {x : UInt8} (h : k ≠ i) : (xs.set k x).getD i 0 = xs.getD i 0 := by
  simp [List.getD_eq_getElem?_getD, List.getElem?_set_ne h]
theorem getB_set_eq {xs : List UInt8} {k : Nat} {x : UInt8} (h : k < xs.length) : (xs.set k x).getD k 0 = x := by
  simp [List.getD_eq_getElem?_getD, h]
theorem TurnR.step {L M : List UInt8} {i : Nat} (h : TurnR L M i) (hi : 2 * i + 1 < L.length) : TurnR L ((M.set i (M.getD (L.length - 1 - i) 0)).set (L.length - 1 - i) (M.getD i 0)) (i + 1) := by
  have hl := h.len
  have g1 := h.at' i (by omega)
  have g2 := h.at' (L.length - 1 - i) (by omega)
  rw [if_neg (by omega)] at g1 g2
  refine ⟨by simp [hl], fun j hj => ?_⟩
  by_cases e1 : j = L.length - 1 - i
  · subst e1
    rw [getB_set_eq (by simp; omega), g1, if_pos (by omega)]
    congr 1; omega
  · by_cases e2 : j = i
    · subst e2
      rw [getB_set_ne (by omega), getB_set_eq (by omega), g2, if_pos (by omega)]
    · rw [getB_set_ne (by omega), getB_set_ne (by omega), h.at' j hj]
      by_cases e3 : j < i ∨ L.length - i ≤ j
      · rw [if_pos e3, if_pos (by omega)]
      · rw [if_neg e3, if_neg (by omega)]
theorem TurnR.done {L M : List UInt8} {i : Nat} (h : TurnR L M i) (hi : L.length ≤ 2 * i + 1) : M = L.reverse := by
  apply List.ext_getElem (by simp [h.len])
  intro j h1 h2
  have hl := h.len
  have g := h.at' j (by omega)
  rw [List.getElem_reverse]
  have e1 : M.getD j 0 = M[j] := by simp [List.getD_eq_getElem?_getD, h1]
  have e2 : L.getD (L.length - 1 - j) 0 = L[L.length - 1 - j]'(by omega) := by simp [List.getD_eq_getElem?_getD, show L.length - 1 - j < L.length by omega]
  rw [← e1, ← e2, g]
  by_cases e3 : j < i ∨ L.length - i ≤ j
  · rw [if_pos e3]
  · rw [if_neg e3, show L.length - 1 - j = j by omega]
/-- Block g begins with the bytes l, none frozen. -/
def BlkB (w : World) (g : Nat) (t : TypeId) (l : List UInt8) : Prop := ∃ cs : Array Value, w.heap[g]? = some (.cells cs t (0, 0)) ∧ ∀ i, i < l.length → cs[i]? = some (.int .u8 ((l.getD i 0).toNat : Int))
section
variable {w w' : World} {g : Nat} {t : TypeId} {L : List UInt8}
theorem BlkB.lt (h : BlkB w g t L) : g < w.heap.size := by
  obtain ⟨cs, h, _⟩ := h
  exact (Array.getElem?_eq_some_iff.1 h).1
theorem BlkB.cell (h : BlkB w g t L) (i : Nat) (hi : i < L.length) : w.cell? ⟨g, i, none⟩ = some (.int .u8 ((L.getD i 0).toNat : Int)) := by
  obtain ⟨cs, h, hc⟩ := h
  rw [cell_of_row w g i _ t (0, 0) h]
  exact hc i hi
theorem BlkB.frozen (h : BlkB w g t L) (i : Nat) : w.frozen? ⟨g, i, none⟩ = false := by
  obtain ⟨cs, h, _⟩ := h
  simp [World.frozen?, h]
theorem BlkB.same (h : BlkB w g t L) (e : w'.heap[g]? = w.heap[g]?) : BlkB w' g t L := by
  obtain ⟨cs, h, hc⟩ := h
  exact ⟨cs, e.trans h, hc⟩
theorem BlkB.set (h : BlkB w g t L) (i : Nat) (x : UInt8) : BlkB (w.setCell ⟨g, i, none⟩ (.int .u8 (x.toNat : Int))) g t (L.set i x) := by
  obtain ⟨cs, h, hc⟩ := h
  refine ⟨cs.setIfInBounds i (.int .u8 (x.toNat : Int)), by simp [World.setCell, Array.getElem?_modify, h], fun j hj => ?_⟩
  rw [List.length_set] at hj
  have hcj := hc j hj
  have hjs : j < cs.size := (Array.getElem?_eq_some_iff.1 hcj).1
  rw [Array.getElem?_setIfInBounds]
  by_cases e : i = j
  · subst e
    simp [hjs, List.getD_eq_getElem?_getD, hj]
  · rw [if_neg e, hcj]
    simp [List.getD_eq_getElem?_getD, List.getElem?_set_ne e]
theorem BlkB.bytes (h : BlkB w g t L) : Lib.Bytes w g 0 ⟨L.toArray⟩ := fun i hi => by
  have hi' : i < L.length := by simpa [ByteArray.size] using hi
  rw [Nat.zero_add, h.cell i hi']
  have : L.getD i 0 = (⟨L.toArray⟩ : ByteArray)[i] := by
    show _ = L.toArray[i]
    simp [List.getD_eq_getElem?_getD, hi']
  rw [this]
end
end Go.Cal
namespace Go.Proofs.YtncfbleeidjflaaGreatDoor
open Go.RowKit Go.Cal
def NextTells (st : Nat) (c : UInt8) (w : World) : Prop := Calls Tryz.prog 100 #[.int .i64 (st : Nat), .int .u8 ((c.toNat : Nat) : Int)] w fun e w' => e = .returned (.int .i64 ((nxt st c : Nat) : Int)) ∧ w = w'
set_option maxRecDepth 100000 in
set_option maxHeartbeats 1000000 in
theorem next_0 (c : UInt8) (w : World) : NextTells 0 c w := by
  unfold NextTells
  obtain ⟨x, hx⟩ : ∃ x : Int, ((c.toNat : Nat) : Int) = x := ⟨_, rfl⟩
  rw [hx]
  by_cases h45 : c = 45
  · subst h45
    obtain rfl : x = 45 := by rw [← hx]; rfl
    have hv : nxt 0 45 = 1 := by decide
    go_enter Tryz.func100, Tryz.ntmps100
    go_wp2
    go_ret
    exact ⟨by first | rfl | (rw [hv]; rfl), rfl⟩
  · have x45 : ¬ x = 45 := fun e => h45 (UInt8.toNat_inj.1 (by show c.toNat = 45; omega))
    have y45 : (x == 45) = false := beq_eq_false_iff_ne.2 x45
    by_cases h105 : c = 105
    · subst h105
      obtain rfl : x = 105 := by rw [← hx]; rfl
      have hv : nxt 0 105 = 10 := by decide
      go_enter Tryz.func100, Tryz.ntmps100
      go_wp2
      go_ret
      exact ⟨by first | rfl | (rw [hv]; rfl), rfl⟩
    · have x105 : ¬ x = 105 := fun e => h105 (UInt8.toNat_inj.1 (by show c.toNat = 105; omega))
      have y105 : (x == 105) = false := beq_eq_false_iff_ne.2 x105
      by_cases h110 : c = 110
      · subst h110
        obtain rfl : x = 110 := by rw [← hx]; rfl
        have hv : nxt 0 110 = 20 := by decide
        go_enter Tryz.func100, Tryz.ntmps100
        go_wp2
        go_ret
        exact ⟨by first | rfl | (rw [hv]; rfl), rfl⟩
      · have x110 : ¬ x = 110 := fun e => h110 (UInt8.toNat_inj.1 (by show c.toNat = 110; omega))
        have y110 : (x == 110) = false := beq_eq_false_iff_ne.2 x110
        by_cases h78 : c = 78
        · subst h78
          obtain rfl : x = 78 := by rw [← hx]; rfl
          have hv : nxt 0 78 = 30 := by decide
          go_enter Tryz.func100, Tryz.ntmps100
          go_wp2
          go_ret
          exact ⟨by first | rfl | (rw [hv]; rfl), rfl⟩
        · have x78 : ¬ x = 78 := fun e => h78 (UInt8.toNat_inj.1 (by show c.toNat = 78; omega))
          have y78 : (x == 78) = false := beq_eq_false_iff_ne.2 x78
          by_cases h46 : c = 46
          · subst h46
            obtain rfl : x = 46 := by rw [← hx]; rfl
            have hv : nxt 0 46 = 4 := by decide
            go_enter Tryz.func100, Tryz.ntmps100
            go_wp2
            go_ret
            exact ⟨by first | rfl | (rw [hv]; rfl), rfl⟩
          · have x46 : ¬ x = 46 := fun e => h46 (UInt8.toNat_inj.1 (by show c.toNat = 46; omega))
            have y46 : (x == 46) = false := beq_eq_false_iff_ne.2 x46
            by_cases hd : isDig c = true
            · have hv : nxt 0 c = 2 := by simp [nxt, hd, h45, h105, h110, h78, h46]
              have hb : 48 ≤ x ∧ x ≤ 57 := by unfold isDig at hd; simp at hd; omega
              obtain ⟨b1, b2⟩ := hb
              clear hd
              go_enter Tryz.func100, Tryz.ntmps100
              go_wp2
              go_ret
              exact ⟨by first | rfl | (rw [hv]; rfl), rfl⟩
            · have hv : nxt 0 c = 99 := by simp [nxt, hd, h45, h105, h110, h78, h46]
              have hb : x < 48 ∨ (¬ x < 48 ∧ 57 < x) := by unfold isDig at hd; simp at hd; omega
              clear hd
              rcases hb with b1 | ⟨b1, b2⟩
              · go_enter Tryz.func100, Tryz.ntmps100
                go_wp2
                go_ret
                exact ⟨by first | rfl | (rw [hv]; rfl), rfl⟩
              · go_enter Tryz.func100, Tryz.ntmps100
                go_wp2
                go_ret
                exact ⟨by first | rfl | (rw [hv]; rfl), rfl⟩
set_option maxRecDepth 100000 in
set_option maxHeartbeats 1000000 in
theorem next_1 (c : UInt8) (w : World) : NextTells 1 c w := by
  unfold NextTells
  obtain ⟨x, hx⟩ : ∃ x : Int, ((c.toNat : Nat) : Int) = x := ⟨_, rfl⟩
  rw [hx]
  by_cases h45 : c = 45
  · subst h45
    obtain rfl : x = 45 := by rw [← hx]; rfl
    have hv : nxt 1 45 = 99 := by decide
    go_enter Tryz.func100, Tryz.ntmps100
    go_wp2
    go_ret
    exact ⟨by first | rfl | (rw [hv]; rfl), rfl⟩
  · have x45 : ¬ x = 45 := fun e => h45 (UInt8.toNat_inj.1 (by show c.toNat = 45; omega))
    have y45 : (x == 45) = false := beq_eq_false_iff_ne.2 x45
    by_cases h105 : c = 105
    · subst h105
      obtain rfl : x = 105 := by rw [← hx]; rfl
      have hv : nxt 1 105 = 10 := by decide
      go_enter Tryz.func100, Tryz.ntmps100
      go_wp2
      go_ret
      exact ⟨by first | rfl | (rw [hv]; rfl), rfl⟩
    · have x105 : ¬ x = 105 := fun e => h105 (UInt8.toNat_inj.1 (by show c.toNat = 105; omega))
      have y105 : (x == 105) = false := beq_eq_false_iff_ne.2 x105
      by_cases h110 : c = 110
      · subst h110
        obtain rfl : x = 110 := by rw [← hx]; rfl
        have hv : nxt 1 110 = 20 := by decide
        go_enter Tryz.func100, Tryz.ntmps100
        go_wp2
        go_ret
        exact ⟨by first | rfl | (rw [hv]; rfl), rfl⟩
      · have x110 : ¬ x = 110 := fun e => h110 (UInt8.toNat_inj.1 (by show c.toNat = 110; omega))
        have y110 : (x == 110) = false := beq_eq_false_iff_ne.2 x110
        by_cases h78 : c = 78
        · subst h78
          obtain rfl : x = 78 := by rw [← hx]; rfl
          have hv : nxt 1 78 = 30 := by decide
          go_enter Tryz.func100, Tryz.ntmps100
          go_wp2
          go_ret
          exact ⟨by first | rfl | (rw [hv]; rfl), rfl⟩
        · have x78 : ¬ x = 78 := fun e => h78 (UInt8.toNat_inj.1 (by show c.toNat = 78; omega))
          have y78 : (x == 78) = false := beq_eq_false_iff_ne.2 x78
          by_cases h46 : c = 46
          · subst h46
            obtain rfl : x = 46 := by rw [← hx]; rfl
            have hv : nxt 1 46 = 4 := by decide
            go_enter Tryz.func100, Tryz.ntmps100
            go_wp2
            go_ret
            exact ⟨by first | rfl | (rw [hv]; rfl), rfl⟩
          · have x46 : ¬ x = 46 := fun e => h46 (UInt8.toNat_inj.1 (by show c.toNat = 46; omega))
            have y46 : (x == 46) = false := beq_eq_false_iff_ne.2 x46
            by_cases hd : isDig c = true
            · have hv : nxt 1 c = 2 := by simp [nxt, hd, h45, h105, h110, h78, h46]
              have hb : 48 ≤ x ∧ x ≤ 57 := by unfold isDig at hd; simp at hd; omega
              obtain ⟨b1, b2⟩ := hb
              clear hd
              go_enter Tryz.func100, Tryz.ntmps100
              go_wp2
              go_ret
              exact ⟨by first | rfl | (rw [hv]; rfl), rfl⟩
            · have hv : nxt 1 c = 99 := by simp [nxt, hd, h45, h105, h110, h78, h46]
              have hb : x < 48 ∨ (¬ x < 48 ∧ 57 < x) := by unfold isDig at hd; simp at hd; omega
              clear hd
              rcases hb with b1 | ⟨b1, b2⟩
              · go_enter Tryz.func100, Tryz.ntmps100
                go_wp2
                go_ret
                exact ⟨by first | rfl | (rw [hv]; rfl), rfl⟩
              · go_enter Tryz.func100, Tryz.ntmps100
                go_wp2
                go_ret
                exact ⟨by first | rfl | (rw [hv]; rfl), rfl⟩
set_option maxRecDepth 100000 in
set_option maxHeartbeats 1000000 in
theorem next_2 (c : UInt8) (w : World) : NextTells 2 c w := by
  unfold NextTells
  obtain ⟨x, hx⟩ : ∃ x : Int, ((c.toNat : Nat) : Int) = x := ⟨_, rfl⟩
  rw [hx]
  by_cases h46 : c = 46
  · subst h46
    obtain rfl : x = 46 := by rw [← hx]; rfl
    have hv : nxt 2 46 = 3 := by decide
    go_enter Tryz.func100, Tryz.ntmps100
    go_wp2
    go_ret
    exact ⟨by first | rfl | (rw [hv]; rfl), rfl⟩
  · have x46 : ¬ x = 46 := fun e => h46 (UInt8.toNat_inj.1 (by show c.toNat = 46; omega))
    have y46 : (x == 46) = false := beq_eq_false_iff_ne.2 x46
    by_cases h101 : c = 101
    · subst h101
      obtain rfl : x = 101 := by rw [← hx]; rfl
      have hv : nxt 2 101 = 6 := by decide
      go_enter Tryz.func100, Tryz.ntmps100
      go_wp2
      go_ret
      exact ⟨by first | rfl | (rw [hv]; rfl), rfl⟩
    · have x101 : ¬ x = 101 := fun e => h101 (UInt8.toNat_inj.1 (by show c.toNat = 101; omega))
      have y101 : (x == 101) = false := beq_eq_false_iff_ne.2 x101
      by_cases h69 : c = 69
      · subst h69
        obtain rfl : x = 69 := by rw [← hx]; rfl
        have hv : nxt 2 69 = 6 := by decide
        go_enter Tryz.func100, Tryz.ntmps100
        go_wp2
        go_ret
        exact ⟨by first | rfl | (rw [hv]; rfl), rfl⟩
      · have x69 : ¬ x = 69 := fun e => h69 (UInt8.toNat_inj.1 (by show c.toNat = 69; omega))
        have y69 : (x == 69) = false := beq_eq_false_iff_ne.2 x69
        by_cases hd : isDig c = true
        · have hv : nxt 2 c = 2 := by simp [nxt, hd, h46]
          have hb : 48 ≤ x ∧ x ≤ 57 := by unfold isDig at hd; simp at hd; omega
          obtain ⟨b1, b2⟩ := hb
          clear hd
          go_enter Tryz.func100, Tryz.ntmps100
          go_wp2
          go_ret
          exact ⟨by first | rfl | (rw [hv]; rfl), rfl⟩
        · have hv : nxt 2 c = 99 := by simp [nxt, hd, h46, h101, h69]
          have hb : x < 48 ∨ (¬ x < 48 ∧ 57 < x) := by unfold isDig at hd; simp at hd; omega
          clear hd
          rcases hb with b1 | ⟨b1, b2⟩
          · go_enter Tryz.func100, Tryz.ntmps100
            go_wp2
            go_ret
            exact ⟨by first | rfl | (rw [hv]; rfl), rfl⟩
          · go_enter Tryz.func100, Tryz.ntmps100
            go_wp2
            go_ret
            exact ⟨by first | rfl | (rw [hv]; rfl), rfl⟩
set_option maxRecDepth 100000 in
set_option maxHeartbeats 1000000 in
theorem next_3 (c : UInt8) (w : World) : NextTells 3 c w := by
  unfold NextTells
  obtain ⟨x, hx⟩ : ∃ x : Int, ((c.toNat : Nat) : Int) = x := ⟨_, rfl⟩
  rw [hx]
  by_cases h101 : c = 101
  · subst h101
    obtain rfl : x = 101 := by rw [← hx]; rfl
    have hv : nxt 3 101 = 6 := by decide
    go_enter Tryz.func100, Tryz.ntmps100
    go_wp2
    go_ret
    exact ⟨by first | rfl | (rw [hv]; rfl), rfl⟩
  · have x101 : ¬ x = 101 := fun e => h101 (UInt8.toNat_inj.1 (by show c.toNat = 101; omega))
    have y101 : (x == 101) = false := beq_eq_false_iff_ne.2 x101
    by_cases h69 : c = 69
    · subst h69
      obtain rfl : x = 69 := by rw [← hx]; rfl
      have hv : nxt 3 69 = 6 := by decide
      go_enter Tryz.func100, Tryz.ntmps100
      go_wp2
      go_ret
      exact ⟨by first | rfl | (rw [hv]; rfl), rfl⟩
    · have x69 : ¬ x = 69 := fun e => h69 (UInt8.toNat_inj.1 (by show c.toNat = 69; omega))
      have y69 : (x == 69) = false := beq_eq_false_iff_ne.2 x69
      by_cases hd : isDig c = true
      · have hv : nxt 3 c = 5 := by simp [nxt, hd]
        have hb : 48 ≤ x ∧ x ≤ 57 := by unfold isDig at hd; simp at hd; omega
        obtain ⟨b1, b2⟩ := hb
        clear hd
        go_enter Tryz.func100, Tryz.ntmps100
        go_wp2
        go_ret
        exact ⟨by first | rfl | (rw [hv]; rfl), rfl⟩
      · have hv : nxt 3 c = 99 := by simp [nxt, hd, h101, h69]
        have hb : x < 48 ∨ (¬ x < 48 ∧ 57 < x) := by unfold isDig at hd; simp at hd; omega
        clear hd
        rcases hb with b1 | ⟨b1, b2⟩
        · go_enter Tryz.func100, Tryz.ntmps100
          go_wp2
          go_ret
          exact ⟨by first | rfl | (rw [hv]; rfl), rfl⟩
        · go_enter Tryz.func100, Tryz.ntmps100
          go_wp2
          go_ret
          exact ⟨by first | rfl | (rw [hv]; rfl), rfl⟩
set_option maxRecDepth 100000 in
set_option maxHeartbeats 1000000 in
theorem next_4 (c : UInt8) (w : World) : NextTells 4 c w := by
  unfold NextTells
  obtain ⟨x, hx⟩ : ∃ x : Int, ((c.toNat : Nat) : Int) = x := ⟨_, rfl⟩
  rw [hx]
  by_cases hd : isDig c = true
  · have hv : nxt 4 c = 5 := by simp [nxt, hd]
    have hb : 48 ≤ x ∧ x ≤ 57 := by unfold isDig at hd; simp at hd; omega
    obtain ⟨b1, b2⟩ := hb
    clear hd
    go_enter Tryz.func100, Tryz.ntmps100
    go_wp2
    go_ret
    exact ⟨by first | rfl | (rw [hv]; rfl), rfl⟩
  · have hv : nxt 4 c = 99 := by simp [nxt, hd]
    have hb : x < 48 ∨ (¬ x < 48 ∧ 57 < x) := by unfold isDig at hd; simp at hd; omega
    clear hd
    rcases hb with b1 | ⟨b1, b2⟩
    · go_enter Tryz.func100, Tryz.ntmps100
      go_wp2
      go_ret
      exact ⟨by first | rfl | (rw [hv]; rfl), rfl⟩
    · go_enter Tryz.func100, Tryz.ntmps100
      go_wp2
      go_ret
      exact ⟨by first | rfl | (rw [hv]; rfl), rfl⟩
set_option maxRecDepth 100000 in
set_option maxHeartbeats 1000000 in
theorem next_5 (c : UInt8) (w : World) : NextTells 5 c w := by
  unfold NextTells
  obtain ⟨x, hx⟩ : ∃ x : Int, ((c.toNat : Nat) : Int) = x := ⟨_, rfl⟩
  rw [hx]
  by_cases h101 : c = 101
  · subst h101
    obtain rfl : x = 101 := by rw [← hx]; rfl
    have hv : nxt 5 101 = 6 := by decide
    go_enter Tryz.func100, Tryz.ntmps100
    go_wp2
    go_ret
    exact ⟨by first | rfl | (rw [hv]; rfl), rfl⟩
  · have x101 : ¬ x = 101 := fun e => h101 (UInt8.toNat_inj.1 (by show c.toNat = 101; omega))
    have y101 : (x == 101) = false := beq_eq_false_iff_ne.2 x101
    by_cases h69 : c = 69
    · subst h69
      obtain rfl : x = 69 := by rw [← hx]; rfl
      have hv : nxt 5 69 = 6 := by decide
      go_enter Tryz.func100, Tryz.ntmps100
      go_wp2
      go_ret
      exact ⟨by first | rfl | (rw [hv]; rfl), rfl⟩
    · have x69 : ¬ x = 69 := fun e => h69 (UInt8.toNat_inj.1 (by show c.toNat = 69; omega))
      have y69 : (x == 69) = false := beq_eq_false_iff_ne.2 x69
      by_cases hd : isDig c = true
      · have hv : nxt 5 c = 5 := by simp [nxt, hd]
        have hb : 48 ≤ x ∧ x ≤ 57 := by unfold isDig at hd; simp at hd; omega
        obtain ⟨b1, b2⟩ := hb
        clear hd
        go_enter Tryz.func100, Tryz.ntmps100
        go_wp2
        go_ret
        exact ⟨by first | rfl | (rw [hv]; rfl), rfl⟩
      · have hv : nxt 5 c = 99 := by simp [nxt, hd, h101, h69]
        have hb : x < 48 ∨ (¬ x < 48 ∧ 57 < x) := by unfold isDig at hd; simp at hd; omega
        clear hd
        rcases hb with b1 | ⟨b1, b2⟩
        · go_enter Tryz.func100, Tryz.ntmps100
          go_wp2
          go_ret
          exact ⟨by first | rfl | (rw [hv]; rfl), rfl⟩
        · go_enter Tryz.func100, Tryz.ntmps100
          go_wp2
          go_ret
          exact ⟨by first | rfl | (rw [hv]; rfl), rfl⟩
set_option maxRecDepth 100000 in
set_option maxHeartbeats 1000000 in
theorem next_6 (c : UInt8) (w : World) : NextTells 6 c w := by
  unfold NextTells
  obtain ⟨x, hx⟩ : ∃ x : Int, ((c.toNat : Nat) : Int) = x := ⟨_, rfl⟩
  rw [hx]
  by_cases h43 : c = 43
  · subst h43
    obtain rfl : x = 43 := by rw [← hx]; rfl
    have hv : nxt 6 43 = 7 := by decide
    go_enter Tryz.func100, Tryz.ntmps100
    go_wp2
    go_ret
    exact ⟨by first | rfl | (rw [hv]; rfl), rfl⟩
  · have x43 : ¬ x = 43 := fun e => h43 (UInt8.toNat_inj.1 (by show c.toNat = 43; omega))
    have y43 : (x == 43) = false := beq_eq_false_iff_ne.2 x43
    by_cases h45 : c = 45
    · subst h45
      obtain rfl : x = 45 := by rw [← hx]; rfl
      have hv : nxt 6 45 = 7 := by decide
      go_enter Tryz.func100, Tryz.ntmps100
      go_wp2
      go_ret
      exact ⟨by first | rfl | (rw [hv]; rfl), rfl⟩
    · have x45 : ¬ x = 45 := fun e => h45 (UInt8.toNat_inj.1 (by show c.toNat = 45; omega))
      have y45 : (x == 45) = false := beq_eq_false_iff_ne.2 x45
      by_cases hd : isDig c = true
      · have hv : nxt 6 c = 8 := by simp [nxt, hd]
        have hb : 48 ≤ x ∧ x ≤ 57 := by unfold isDig at hd; simp at hd; omega
        obtain ⟨b1, b2⟩ := hb
        clear hd
        go_enter Tryz.func100, Tryz.ntmps100
        go_wp2
        go_ret
        exact ⟨by first | rfl | (rw [hv]; rfl), rfl⟩
      · have hv : nxt 6 c = 99 := by simp [nxt, hd, h43, h45]
        have hb : x < 48 ∨ (¬ x < 48 ∧ 57 < x) := by unfold isDig at hd; simp at hd; omega
        clear hd
        rcases hb with b1 | ⟨b1, b2⟩
        · go_enter Tryz.func100, Tryz.ntmps100
          go_wp2
          go_ret
          exact ⟨by first | rfl | (rw [hv]; rfl), rfl⟩
        · go_enter Tryz.func100, Tryz.ntmps100
          go_wp2
          go_ret
          exact ⟨by first | rfl | (rw [hv]; rfl), rfl⟩
set_option maxRecDepth 100000 in
set_option maxHeartbeats 1000000 in
theorem next_7 (c : UInt8) (w : World) : NextTells 7 c w := by
  unfold NextTells
  obtain ⟨x, hx⟩ : ∃ x : Int, ((c.toNat : Nat) : Int) = x := ⟨_, rfl⟩
  rw [hx]
  by_cases hd : isDig c = true
  · have hv : nxt 7 c = 8 := by simp [nxt, hd]
    have hb : 48 ≤ x ∧ x ≤ 57 := by unfold isDig at hd; simp at hd; omega
    obtain ⟨b1, b2⟩ := hb
    clear hd
    go_enter Tryz.func100, Tryz.ntmps100
    go_wp2
    go_ret
    exact ⟨by first | rfl | (rw [hv]; rfl), rfl⟩
  · have hv : nxt 7 c = 99 := by simp [nxt, hd]
    have hb : x < 48 ∨ (¬ x < 48 ∧ 57 < x) := by unfold isDig at hd; simp at hd; omega
    clear hd
    rcases hb with b1 | ⟨b1, b2⟩
    · go_enter Tryz.func100, Tryz.ntmps100
      go_wp2
      go_ret
      exact ⟨by first | rfl | (rw [hv]; rfl), rfl⟩
    · go_enter Tryz.func100, Tryz.ntmps100
      go_wp2
      go_ret
      exact ⟨by first | rfl | (rw [hv]; rfl), rfl⟩
set_option maxRecDepth 100000 in
set_option maxHeartbeats 1000000 in
theorem next_8 (c : UInt8) (w : World) : NextTells 8 c w := by
  unfold NextTells
  obtain ⟨x, hx⟩ : ∃ x : Int, ((c.toNat : Nat) : Int) = x := ⟨_, rfl⟩
  rw [hx]
  by_cases hd : isDig c = true
  · have hv : nxt 8 c = 8 := by simp [nxt, hd]
    have hb : 48 ≤ x ∧ x ≤ 57 := by unfold isDig at hd; simp at hd; omega
    obtain ⟨b1, b2⟩ := hb
    clear hd
    go_enter Tryz.func100, Tryz.ntmps100
    go_wp2
    go_ret
    exact ⟨by first | rfl | (rw [hv]; rfl), rfl⟩
  · have hv : nxt 8 c = 99 := by simp [nxt, hd]
    have hb : x < 48 ∨ (¬ x < 48 ∧ 57 < x) := by unfold isDig at hd; simp at hd; omega
    clear hd
    rcases hb with b1 | ⟨b1, b2⟩
    · go_enter Tryz.func100, Tryz.ntmps100
      go_wp2
      go_ret
      exact ⟨by first | rfl | (rw [hv]; rfl), rfl⟩
    · go_enter Tryz.func100, Tryz.ntmps100
      go_wp2
      go_ret
      exact ⟨by first | rfl | (rw [hv]; rfl), rfl⟩
set_option maxRecDepth 100000 in
set_option maxHeartbeats 1000000 in
theorem next_10 (c : UInt8) (w : World) : NextTells 10 c w := by
  unfold NextTells
  obtain ⟨x, hx⟩ : ∃ x : Int, ((c.toNat : Nat) : Int) = x := ⟨_, rfl⟩
  rw [hx]
  by_cases h110 : c = 110
  · subst h110
    obtain rfl : x = 110 := by rw [← hx]; rfl
    have hv : nxt 10 110 = 11 := by decide
    go_enter Tryz.func100, Tryz.ntmps100
    go_wp2
    go_ret
    exact ⟨by first | rfl | (rw [hv]; rfl), rfl⟩
  · have x110 : ¬ x = 110 := fun e => h110 (UInt8.toNat_inj.1 (by show c.toNat = 110; omega))
    have y110 : (x == 110) = false := beq_eq_false_iff_ne.2 x110
    by_cases hd : isDig c = true
    · have hv : nxt 10 c = 99 := by simp [nxt, hd, h110]
      have hb : 48 ≤ x ∧ x ≤ 57 := by unfold isDig at hd; simp at hd; omega
      obtain ⟨b1, b2⟩ := hb
      clear hd
      go_enter Tryz.func100, Tryz.ntmps100
      go_wp2
      go_ret
      exact ⟨by first | rfl | (rw [hv]; rfl), rfl⟩
    · have hv : nxt 10 c = 99 := by simp [nxt, hd, h110]
      have hb : x < 48 ∨ (¬ x < 48 ∧ 57 < x) := by unfold isDig at hd; simp at hd; omega
      clear hd
      rcases hb with b1 | ⟨b1, b2⟩
      · go_enter Tryz.func100, Tryz.ntmps100
        go_wp2
        go_ret
        exact ⟨by first | rfl | (rw [hv]; rfl), rfl⟩
      · go_enter Tryz.func100, Tryz.ntmps100
        go_wp2
        go_ret
        exact ⟨by first | rfl | (rw [hv]; rfl), rfl⟩
set_option maxRecDepth 100000 in
set_option maxHeartbeats 1000000 in
theorem next_11 (c : UInt8) (w : World) : NextTells 11 c w := by
  unfold NextTells
  obtain ⟨x, hx⟩ : ∃ x : Int, ((c.toNat : Nat) : Int) = x := ⟨_, rfl⟩
  rw [hx]
  by_cases h102 : c = 102
  · subst h102
    obtain rfl : x = 102 := by rw [← hx]; rfl
    have hv : nxt 11 102 = 12 := by decide
    go_enter Tryz.func100, Tryz.ntmps100
    go_wp2
    go_ret
    exact ⟨by first | rfl | (rw [hv]; rfl), rfl⟩
  · have x102 : ¬ x = 102 := fun e => h102 (UInt8.toNat_inj.1 (by show c.toNat = 102; omega))
    have y102 : (x == 102) = false := beq_eq_false_iff_ne.2 x102
    by_cases hd : isDig c = true
    · have hv : nxt 11 c = 99 := by simp [nxt, hd, h102]
      have hb : 48 ≤ x ∧ x ≤ 57 := by unfold isDig at hd; simp at hd; omega
      obtain ⟨b1, b2⟩ := hb
      clear hd
      go_enter Tryz.func100, Tryz.ntmps100
      go_wp2
      go_ret
      exact ⟨by first | rfl | (rw [hv]; rfl), rfl⟩
    · have hv : nxt 11 c = 99 := by simp [nxt, hd, h102]
      have hb : x < 48 ∨ (¬ x < 48 ∧ 57 < x) := by unfold isDig at hd; simp at hd; omega
      clear hd
      rcases hb with b1 | ⟨b1, b2⟩
      · go_enter Tryz.func100, Tryz.ntmps100
        go_wp2
        go_ret
        exact ⟨by first | rfl | (rw [hv]; rfl), rfl⟩
      · go_enter Tryz.func100, Tryz.ntmps100
        go_wp2
        go_ret
        exact ⟨by first | rfl | (rw [hv]; rfl), rfl⟩
set_option maxRecDepth 100000 in
set_option maxHeartbeats 1000000 in
theorem next_12 (c : UInt8) (w : World) : NextTells 12 c w := by
  unfold NextTells
  obtain ⟨x, hx⟩ : ∃ x : Int, ((c.toNat : Nat) : Int) = x := ⟨_, rfl⟩
  rw [hx]
  by_cases hd : isDig c = true
  · have hv : nxt 12 c = 99 := by simp [nxt, hd]
    have hb : 48 ≤ x ∧ x ≤ 57 := by unfold isDig at hd; simp at hd; omega
    obtain ⟨b1, b2⟩ := hb
    clear hd
    go_enter Tryz.func100, Tryz.ntmps100
    go_wp2
    go_ret
    exact ⟨by first | rfl | (rw [hv]; rfl), rfl⟩
  · have hv : nxt 12 c = 99 := by simp [nxt, hd]
    have hb : x < 48 ∨ (¬ x < 48 ∧ 57 < x) := by unfold isDig at hd; simp at hd; omega
    clear hd
    rcases hb with b1 | ⟨b1, b2⟩
    · go_enter Tryz.func100, Tryz.ntmps100
      go_wp2
      go_ret
      exact ⟨by first | rfl | (rw [hv]; rfl), rfl⟩
    · go_enter Tryz.func100, Tryz.ntmps100
      go_wp2
      go_ret
      exact ⟨by first | rfl | (rw [hv]; rfl), rfl⟩
set_option maxRecDepth 100000 in
set_option maxHeartbeats 1000000 in
theorem next_20 (c : UInt8) (w : World) : NextTells 20 c w := by
  unfold NextTells
  obtain ⟨x, hx⟩ : ∃ x : Int, ((c.toNat : Nat) : Int) = x := ⟨_, rfl⟩
  rw [hx]
  by_cases h97 : c = 97
  · subst h97
    obtain rfl : x = 97 := by rw [← hx]; rfl
    have hv : nxt 20 97 = 21 := by decide
    go_enter Tryz.func100, Tryz.ntmps100
    go_wp2
    go_ret
    exact ⟨by first | rfl | (rw [hv]; rfl), rfl⟩
  · have x97 : ¬ x = 97 := fun e => h97 (UInt8.toNat_inj.1 (by show c.toNat = 97; omega))
    have y97 : (x == 97) = false := beq_eq_false_iff_ne.2 x97
    by_cases hd : isDig c = true
    · have hv : nxt 20 c = 99 := by simp [nxt, hd, h97]
      have hb : 48 ≤ x ∧ x ≤ 57 := by unfold isDig at hd; simp at hd; omega
      obtain ⟨b1, b2⟩ := hb
      clear hd
      go_enter Tryz.func100, Tryz.ntmps100
      go_wp2
      go_ret
      exact ⟨by first | rfl | (rw [hv]; rfl), rfl⟩
    · have hv : nxt 20 c = 99 := by simp [nxt, hd, h97]
      have hb : x < 48 ∨ (¬ x < 48 ∧ 57 < x) := by unfold isDig at hd; simp at hd; omega
      clear hd
      rcases hb with b1 | ⟨b1, b2⟩
      · go_enter Tryz.func100, Tryz.ntmps100
        go_wp2
        go_ret
        exact ⟨by first | rfl | (rw [hv]; rfl), rfl⟩
      · go_enter Tryz.func100, Tryz.ntmps100
        go_wp2
        go_ret
        exact ⟨by first | rfl | (rw [hv]; rfl), rfl⟩
set_option maxRecDepth 100000 in
set_option maxHeartbeats 1000000 in
theorem next_21 (c : UInt8) (w : World) : NextTells 21 c w := by
  unfold NextTells
  obtain ⟨x, hx⟩ : ∃ x : Int, ((c.toNat : Nat) : Int) = x := ⟨_, rfl⟩
  rw [hx]
  by_cases h110 : c = 110
  · subst h110
    obtain rfl : x = 110 := by rw [← hx]; rfl
    have hv : nxt 21 110 = 22 := by decide
    go_enter Tryz.func100, Tryz.ntmps100
    go_wp2
    go_ret
    exact ⟨by first | rfl | (rw [hv]; rfl), rfl⟩
  · have x110 : ¬ x = 110 := fun e => h110 (UInt8.toNat_inj.1 (by show c.toNat = 110; omega))
    have y110 : (x == 110) = false := beq_eq_false_iff_ne.2 x110
    by_cases hd : isDig c = true
    · have hv : nxt 21 c = 99 := by simp [nxt, hd, h110]
      have hb : 48 ≤ x ∧ x ≤ 57 := by unfold isDig at hd; simp at hd; omega
      obtain ⟨b1, b2⟩ := hb
      clear hd
      go_enter Tryz.func100, Tryz.ntmps100
      go_wp2
      go_ret
      exact ⟨by first | rfl | (rw [hv]; rfl), rfl⟩
    · have hv : nxt 21 c = 99 := by simp [nxt, hd, h110]
      have hb : x < 48 ∨ (¬ x < 48 ∧ 57 < x) := by unfold isDig at hd; simp at hd; omega
      clear hd
      rcases hb with b1 | ⟨b1, b2⟩
      · go_enter Tryz.func100, Tryz.ntmps100
        go_wp2
        go_ret
        exact ⟨by first | rfl | (rw [hv]; rfl), rfl⟩
      · go_enter Tryz.func100, Tryz.ntmps100
        go_wp2
        go_ret
        exact ⟨by first | rfl | (rw [hv]; rfl), rfl⟩
set_option maxRecDepth 100000 in
set_option maxHeartbeats 1000000 in
theorem next_22 (c : UInt8) (w : World) : NextTells 22 c w := by
  unfold NextTells
  obtain ⟨x, hx⟩ : ∃ x : Int, ((c.toNat : Nat) : Int) = x := ⟨_, rfl⟩
  rw [hx]
  by_cases hd : isDig c = true
  · have hv : nxt 22 c = 99 := by simp [nxt, hd]
    have hb : 48 ≤ x ∧ x ≤ 57 := by unfold isDig at hd; simp at hd; omega
    obtain ⟨b1, b2⟩ := hb
    clear hd
    go_enter Tryz.func100, Tryz.ntmps100
    go_wp2
    go_ret
    exact ⟨by first | rfl | (rw [hv]; rfl), rfl⟩
  · have hv : nxt 22 c = 99 := by simp [nxt, hd]
    have hb : x < 48 ∨ (¬ x < 48 ∧ 57 < x) := by unfold isDig at hd; simp at hd; omega
    clear hd
    rcases hb with b1 | ⟨b1, b2⟩
    · go_enter Tryz.func100, Tryz.ntmps100
      go_wp2
      go_ret
      exact ⟨by first | rfl | (rw [hv]; rfl), rfl⟩
    · go_enter Tryz.func100, Tryz.ntmps100
      go_wp2
      go_ret
      exact ⟨by first | rfl | (rw [hv]; rfl), rfl⟩
set_option maxRecDepth 100000 in
set_option maxHeartbeats 1000000 in
theorem next_30 (c : UInt8) (w : World) : NextTells 30 c w := by
  unfold NextTells
  obtain ⟨x, hx⟩ : ∃ x : Int, ((c.toNat : Nat) : Int) = x := ⟨_, rfl⟩
  rw [hx]
  by_cases h97 : c = 97
  · subst h97
    obtain rfl : x = 97 := by rw [← hx]; rfl
    have hv : nxt 30 97 = 31 := by decide
    go_enter Tryz.func100, Tryz.ntmps100
    go_wp2
    go_ret
    exact ⟨by first | rfl | (rw [hv]; rfl), rfl⟩
  · have x97 : ¬ x = 97 := fun e => h97 (UInt8.toNat_inj.1 (by show c.toNat = 97; omega))
    have y97 : (x == 97) = false := beq_eq_false_iff_ne.2 x97
    by_cases hd : isDig c = true
    · have hv : nxt 30 c = 99 := by simp [nxt, hd, h97]
      have hb : 48 ≤ x ∧ x ≤ 57 := by unfold isDig at hd; simp at hd; omega
      obtain ⟨b1, b2⟩ := hb
      clear hd
      go_enter Tryz.func100, Tryz.ntmps100
      go_wp2
      go_ret
      exact ⟨by first | rfl | (rw [hv]; rfl), rfl⟩
    · have hv : nxt 30 c = 99 := by simp [nxt, hd, h97]
      have hb : x < 48 ∨ (¬ x < 48 ∧ 57 < x) := by unfold isDig at hd; simp at hd; omega
      clear hd
      rcases hb with b1 | ⟨b1, b2⟩
      · go_enter Tryz.func100, Tryz.ntmps100
        go_wp2
        go_ret
        exact ⟨by first | rfl | (rw [hv]; rfl), rfl⟩
      · go_enter Tryz.func100, Tryz.ntmps100
        go_wp2
        go_ret
        exact ⟨by first | rfl | (rw [hv]; rfl), rfl⟩
set_option maxRecDepth 100000 in
set_option maxHeartbeats 1000000 in
theorem next_31 (c : UInt8) (w : World) : NextTells 31 c w := by
  unfold NextTells
  obtain ⟨x, hx⟩ : ∃ x : Int, ((c.toNat : Nat) : Int) = x := ⟨_, rfl⟩
  rw [hx]
  by_cases h82 : c = 82
  · subst h82
    obtain rfl : x = 82 := by rw [← hx]; rfl
    have hv : nxt 31 82 = 32 := by decide
    go_enter Tryz.func100, Tryz.ntmps100
    go_wp2
    go_ret
    exact ⟨by first | rfl | (rw [hv]; rfl), rfl⟩
  · have x82 : ¬ x = 82 := fun e => h82 (UInt8.toNat_inj.1 (by show c.toNat = 82; omega))
    have y82 : (x == 82) = false := beq_eq_false_iff_ne.2 x82
    by_cases hd : isDig c = true
    · have hv : nxt 31 c = 99 := by simp [nxt, hd, h82]
      have hb : 48 ≤ x ∧ x ≤ 57 := by unfold isDig at hd; simp at hd; omega
      obtain ⟨b1, b2⟩ := hb
      clear hd
      go_enter Tryz.func100, Tryz.ntmps100
      go_wp2
      go_ret
      exact ⟨by first | rfl | (rw [hv]; rfl), rfl⟩
    · have hv : nxt 31 c = 99 := by simp [nxt, hd, h82]
      have hb : x < 48 ∨ (¬ x < 48 ∧ 57 < x) := by unfold isDig at hd; simp at hd; omega
      clear hd
      rcases hb with b1 | ⟨b1, b2⟩
      · go_enter Tryz.func100, Tryz.ntmps100
        go_wp2
        go_ret
        exact ⟨by first | rfl | (rw [hv]; rfl), rfl⟩
      · go_enter Tryz.func100, Tryz.ntmps100
        go_wp2
        go_ret
        exact ⟨by first | rfl | (rw [hv]; rfl), rfl⟩
set_option maxRecDepth 100000 in
set_option maxHeartbeats 1000000 in
theorem next_32 (c : UInt8) (w : World) : NextTells 32 c w := by
  unfold NextTells
  obtain ⟨x, hx⟩ : ∃ x : Int, ((c.toNat : Nat) : Int) = x := ⟨_, rfl⟩
  rw [hx]
  by_cases hd : isDig c = true
  · have hv : nxt 32 c = 99 := by simp [nxt, hd]
    have hb : 48 ≤ x ∧ x ≤ 57 := by unfold isDig at hd; simp at hd; omega
    obtain ⟨b1, b2⟩ := hb
    clear hd
    go_enter Tryz.func100, Tryz.ntmps100
    go_wp2
    go_ret
    exact ⟨by first | rfl | (rw [hv]; rfl), rfl⟩
  · have hv : nxt 32 c = 99 := by simp [nxt, hd]
    have hb : x < 48 ∨ (¬ x < 48 ∧ 57 < x) := by unfold isDig at hd; simp at hd; omega
    clear hd
    rcases hb with b1 | ⟨b1, b2⟩
    · go_enter Tryz.func100, Tryz.ntmps100
      go_wp2
      go_ret
      exact ⟨by first | rfl | (rw [hv]; rfl), rfl⟩
    · go_enter Tryz.func100, Tryz.ntmps100
      go_wp2
      go_ret
      exact ⟨by first | rfl | (rw [hv]; rfl), rfl⟩
/-- The state behind a byte. -/
theorem next_any (st : Nat) (c : UInt8) (h : st ∈ liveL) (w : World) : NextTells st c w := by
  simp only [liveL, List.mem_cons, List.not_mem_nil, or_false] at h
  rcases h with rfl | rfl | rfl | rfl | rfl | rfl | rfl | rfl | rfl | rfl | rfl | rfl | rfl | rfl | rfl | rfl | rfl | rfl
  · exact next_0 c w
  · exact next_1 c w
  · exact next_2 c w
  · exact next_3 c w
  · exact next_4 c w
  · exact next_5 c w
  · exact next_6 c w
  · exact next_7 c w
  · exact next_8 c w
  · exact next_10 c w
  · exact next_11 c w
  · exact next_12 c w
  · exact next_20 c w
  · exact next_21 c w
  · exact next_22 c w
  · exact next_30 c w
  · exact next_31 c w
  · exact next_32 c w
set_option maxRecDepth 100000 in
set_option maxHeartbeats 1000000 in
/-- Is a text over? -/
theorem whole_any (st : Nat) (h : st ∈ liveL) (w : World) : Calls Tryz.prog 101 #[.int .i64 (st : Nat)] w fun e w' => e = .returned (.bool (over st)) ∧ w = w' := by
  simp only [liveL, List.mem_cons, List.not_mem_nil, or_false] at h
  rcases h with rfl | rfl | rfl | rfl | rfl | rfl | rfl | rfl | rfl | rfl | rfl | rfl | rfl | rfl | rfl | rfl | rfl | rfl
  all_goals
    go_enter Tryz.func101, Tryz.ntmps101
    go_wp2
    go_ret
    exact ⟨rfl, rfl⟩
end Go.Proofs.YtncfbleeidjflaaGreatDoor
