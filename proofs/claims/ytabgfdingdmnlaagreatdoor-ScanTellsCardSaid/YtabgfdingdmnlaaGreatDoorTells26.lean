/- Plain: a numeral made from its last digit on; a row turned round in place; bytes in memory. Conditions: none. -/
/- The document's half words, eighth part: numerals and what they are worth. Conditions: a number's half words are counted. -/
import Derived.Test.YtabgfdingdmnlaaGreatDoorTells25
import Derived.Lib.SlBytesRow
namespace Go.Cal
open Go.RowKit
/-- Digits from the last one on: n of them are told, N is left. -/
structure DigR (X n N : Nat) (L : List UInt8) : Prop where
  len : L.length = n
  dig : ∀ c ∈ L, isDig c = true
  val : numV L.reverse + 10 ^ n * N = X
  top : n ≤ 1 ∨ 0 < N ∨ L.getLast? ≠ some 48
theorem DigR.start (X : Nat) : DigR X 0 X [] := ⟨rfl, fun c hc => by simp at hc, by simp [numV], .inl (by omega)⟩
theorem DigR.step {X n N : Nat} {L : List UInt8} (h : DigR X n N L) (hN : 0 < N ∨ n = 0) : DigR X (n + 1) (N / 10) (L ++ [UInt8.ofNat (48 + N % 10)]) := by
  have hm := Nat.mod_lt N (show 0 < 10 by omega)
  refine ⟨by simp [h.len], ?_, ?_, ?_⟩
  · intro c hc
    rcases List.mem_append.1 hc with hc | hc
    · exact h.dig c hc
    · rw [List.mem_singleton] at hc; subst hc; exact isDig_ofNat hm
  · have hv := h.val
    have e : (L ++ [UInt8.ofNat (48 + N % 10)]).reverse = [UInt8.ofNat (48 + N % 10)] ++ L.reverse := by simp
    rw [e, numV_append, List.length_reverse, h.len, Nat.pow_succ, Nat.mul_assoc]
    have e1 : numV [UInt8.ofNat (48 + N % 10)] = N % 10 := by
      show 0 * 10 + ((UInt8.ofNat (48 + N % 10)).toNat - 48) = _
      rw [digit_toNat hm]; omega
    rw [e1, Nat.mul_comm (N % 10), ← hv]
    have := Nat.div_add_mod N 10
    have h2 : 10 ^ n * N = 10 ^ n * (10 * (N / 10)) + 10 ^ n * (N % 10) := by rw [← Nat.mul_add, this]
    omega
  · rcases Nat.eq_zero_or_pos n with h0 | h0
    · exact .inl (by omega)
    · rcases Nat.eq_zero_or_pos (N / 10) with h1 | h1
      · refine .inr (.inr ?_)
        rw [List.getLast?_append]
        simp only [List.getLast?_singleton, Option.some_or, ne_eq, Option.some.injEq]
        intro e
        have := digit_toNat hm
        rw [e] at this
        have e48 : (48 : UInt8).toNat = 48 := rfl
        omega
      · exact .inr (.inl h1)
theorem DigR.done {X n : Nat} {L : List UInt8} (h : DigR X n 0 L) (hn : 0 < n) : Lib.decDigits X = L.reverse := by
  have hv := h.val
  rw [Nat.mul_zero, Nat.add_zero] at hv
  rw [← hv]
  refine dec_numV (fun e => by have := h.len; rw [List.reverse_eq_nil_iff.1 e] at this; simp at this; omega) (fun c hc => h.dig c (List.mem_reverse.1 hc)) (fun e => ?_)
  rw [List.head?_reverse] at e
  have hl := h.len
  rw [List.length_reverse, hl]
  rcases h.top with h1 | h1 | h1
  · omega
  · omega
  · exact absurd e h1
theorem DigR.few {X n N k : Nat} {L : List UInt8} (h : DigR X n N L) (hN : 0 < N) (hX : X < 2 ^ k) : n < k := by
  have hv := h.val
  rcases Nat.lt_or_ge n k with h1 | h1
  · exact h1
  · exfalso
    have h2 : 2 ^ k ≤ 2 ^ n := Nat.pow_le_pow_right (by omega) h1
    have h3 : 2 ^ n ≤ 10 ^ n := Nat.pow_le_pow_left (by omega) n
    have h4 : 10 ^ n * 1 ≤ 10 ^ n * N := Nat.mul_le_mul_left _ hN
    omega
/-- A row being turned round: i at each end are. -/
structure TurnR (L M : List UInt8) (i : Nat) : Prop where
  len : M.length = L.length
  at' : ∀ j, j < L.length → M.getD j 0 = if j < i ∨ L.length - i ≤ j then L.getD (L.length - 1 - j) 0 else L.getD j 0
theorem TurnR.start (L : List UInt8) : TurnR L L 0 := ⟨rfl, fun j hj => by rw [if_neg (by omega)]⟩
theorem getB_set_ne {xs : List UInt8} {k i : Nat} {x : UInt8} (h : k ≠ i) : (xs.set k x).getD i 0 = xs.getD i 0 := by
  simp [List.getD_eq_getElem?_getD, List.getElem?_set_ne h]
theorem getB_set_eq {xs : List UInt8} {k : Nat} {x : UInt8} (h : k < xs.length) : (xs.set k x).getD k 0 = x := by
  simp [List.getD_eq_getElem?_getD, h]
theorem TurnR.step {L M : List UInt8} {i : Nat} (h : TurnR L M i) (hi : 2 * i + 1 < L.length) : TurnR L ((M.set i (M.getD (L.length - 1 - i) 0)).set (L.length - 1 - i) (M.getD i 0)) (i + 1) := by
  have hl := h.len
  have g1 := h.at' i (by omega)
  have g2 := h.at' (L.length - 1 - i) (by omega)
  rw [if_neg (by omega)] at g1 g2
  refine ⟨by simp [hl], fun j hj => ?_⟩
  by_cases e1 : j = L.length - 1 - i
  · subst e1
    rw [getB_set_eq (by simp; omega), g1, if_pos (by omega)]
    congr 1; omega
  · by_cases e2 : j = i
    · subst e2
      rw [getB_set_ne (by omega), getB_set_eq (by omega), g2, if_pos (by omega)]
    · rw [getB_set_ne (by omega), getB_set_ne (by omega), h.at' j hj]
      by_cases e3 : j < i ∨ L.length - i ≤ j
      · rw [if_pos e3, if_pos (by omega)]
      · rw [if_neg e3, if_neg (by omega)]
theorem TurnR.done {L M : List UInt8} {i : Nat} (h : TurnR L M i) (hi : L.length ≤ 2 * i + 1) : M = L.reverse := by
  apply List.ext_getElem (by simp [h.len])
  intro j h1 h2
  have hl := h.len
  have g := h.at' j (by omega)
  rw [List.getElem_reverse]
  have e1 : M.getD j 0 = M[j] := by simp [List.getD_eq_getElem?_getD, h1]
  have e2 : L.getD (L.length - 1 - j) 0 = L[L.length - 1 - j]'(by omega) := by simp [List.getD_eq_getElem?_getD, show L.length - 1 - j < L.length by omega]
  rw [← e1, ← e2, g]
  by_cases e3 : j < i ∨ L.length - i ≤ j
  · rw [if_pos e3]
  · rw [if_neg e3, show L.length - 1 - j = j by omega]
/-- Bytes as cells. -/
def lB (l : List UInt8) : List Value := l.map fun x => Value.int .u8 (x.toNat : Int)
theorem lB_at (l : List UInt8) (i : Nat) (hi : i < l.length) : (lB l)[i]? = some (.int .u8 ((l.getD i 0).toNat : Int)) := by
  simp [lB, List.getD_eq_getElem?_getD, hi]
theorem lB_snoc (l : List UInt8) (x : UInt8) : lB l ++ [.int .u8 (x.toNat : Int)] = lB (l ++ [x]) := by simp [lB]
theorem lB_len (l : List UInt8) : (lB l).length = l.length := by simp [lB]
/-- Block g begins with the bytes l, none frozen. -/
def BlkB (w : World) (g : Nat) (t : TypeId) (l : List UInt8) : Prop := ∃ cs : Array Value, w.heap[g]? = some (.cells cs t (0, 0)) ∧ ∀ i, i < l.length → cs[i]? = some (.int .u8 ((l.getD i 0).toNat : Int))
section
variable {w w' : World} {g : Nat} {t : TypeId} {L : List UInt8}
theorem BlkB.lt (h : BlkB w g t L) : g < w.heap.size := by
  obtain ⟨cs, h, _⟩ := h
  exact (Array.getElem?_eq_some_iff.1 h).1
theorem BlkB.cell (h : BlkB w g t L) (i : Nat) (hi : i < L.length) : w.cell? ⟨g, i, none⟩ = some (.int .u8 ((L.getD i 0).toNat : Int)) := by
  obtain ⟨cs, h, hc⟩ := h
  rw [cell_of_row w g i _ t (0, 0) h]
  exact hc i hi
theorem BlkB.frozen (h : BlkB w g t L) (i : Nat) : w.frozen? ⟨g, i, none⟩ = false := by
  obtain ⟨cs, h, _⟩ := h
  simp [World.frozen?, h]
theorem BlkB.same (h : BlkB w g t L) (e : w'.heap[g]? = w.heap[g]?) : BlkB w' g t L := by
  obtain ⟨cs, h, hc⟩ := h
  exact ⟨cs, e.trans h, hc⟩
theorem BlkB.set (h : BlkB w g t L) (i : Nat) (x : UInt8) : BlkB (w.setCell ⟨g, i, none⟩ (.int .u8 (x.toNat : Int))) g t (L.set i x) := by
  obtain ⟨cs, h, hc⟩ := h
  refine ⟨cs.setIfInBounds i (.int .u8 (x.toNat : Int)), by simp [World.setCell, Array.getElem?_modify, h], fun j hj => ?_⟩
  rw [List.length_set] at hj
  have hcj := hc j hj
  have hjs : j < cs.size := (Array.getElem?_eq_some_iff.1 hcj).1
  rw [Array.getElem?_setIfInBounds]
  by_cases e : i = j
  · subst e
    simp [hjs, List.getD_eq_getElem?_getD, hj]
  · rw [if_neg e, hcj]
    simp [List.getD_eq_getElem?_getD, List.getElem?_set_ne e]
theorem BlkB.bytes (h : BlkB w g t L) : Lib.Bytes w g 0 ⟨L.toArray⟩ := fun i hi => by
  have hi' : i < L.length := by simpa [ByteArray.size] using hi
  rw [Nat.zero_add, h.cell i hi']
  have : L.getD i 0 = (⟨L.toArray⟩ : ByteArray)[i] := by
    show _ = L.toArray[i]
    simp [List.getD_eq_getElem?_getD, hi']
  rw [this]
theorem BlkB.of_own {base n : Nat} {v : Value} (h : w.ownsRow base t 1 v n (lB L)) (hn : n = L.length) (h0 : 0 < n) :
    ∃ g cap, v = .slice (some ⟨g, 0, none⟩) n cap ∧ base ≤ g ∧ g < w.heap.size ∧ n ≤ cap ∧ cap ≤ maxLen ∧ BlkB w g t L := by
  obtain ⟨_, ⟨rfl, h1⟩ | ⟨g, cap, cur, rfl, hg, hw, hn', hm, hs, ht⟩⟩ := h
  · omega
  · refine ⟨g, cap, rfl, hg, (Array.getElem?_eq_some_iff.1 hw).1, hn', hm, cur, hw, fun i hi => ?_⟩
    rw [← lB_at L i hi, ← ht, List.getElem?_take_of_lt (by omega), Array.getElem?_toList]
end
end Go.Cal
namespace Go.Proofs.YtabgfdingdmnlaaGreatDoor
open Go.RowKit Go.Cal
theorem under_bytes : Tryz.prog.underlying 22 = some (.slice 5) := by kernel_rfl
theorem under_byte : Tryz.prog.underlying 5 = some (.int .u8) := by kernel_rfl
theorem under_str : Tryz.prog.underlying 9 = some .string := by kernel_rfl
theorem info_u8 : (Tryz.prog.info? 5).map (fun i => (i.zero, i.size, i.bytes)) = some (some (.int .u8 0), 1, 1) := by kernel_rfl
theorem own_shape {w : World} {base n size : Nat} {t : TypeId} {v : Value} {xs : List Value} (h : w.ownsRow base t size v n xs) : ∃ A cap, v = .slice A n cap := by
  obtain ⟨_, ⟨rfl, rfl⟩ | ⟨g, cap, cur, rfl, _⟩⟩ := h
  · exact ⟨_, _, rfl⟩
  · exact ⟨_, _, rfl⟩
theorem nrmH_pos {zs : List Nat} {N : Nat} (h : NrmH zs N) : 0 < zs.length ↔ 0 < N := by
  constructor
  · intro h0
    have h1 := vl_pos (b := 4294967296) h.top (by intro e; subst e; simp at h0)
    rw [h.val] at h1
    have := Nat.pow_pos (n := zs.length - 1) (show 0 < 4294967296 by omega)
    omega
  · intro h0
    rcases Nat.eq_zero_or_pos zs.length with h1 | h1
    · have := h.val
      rw [List.eq_nil_of_length_eq_zero h1] at this
      simp [vl] at this; omega
    · exact h1
end Go.Proofs.YtabgfdingdmnlaaGreatDoor
