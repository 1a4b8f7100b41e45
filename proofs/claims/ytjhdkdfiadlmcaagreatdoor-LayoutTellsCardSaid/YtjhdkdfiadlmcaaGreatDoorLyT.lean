/- What is proved: the statement LayoutTells: whatever the input, the call tells true and the arguments read as they did. Condition: the package-level tables read as the program's text lays them, which the card ties. -/
/- The document's half words, first part: without noughts; a half word at a place; order. Conditions: lengths below 2^40. -/
/- Plain numbers for the document's half words. Conditions: none. -/
/- The document's half words, second part: words as half words; sums, differences, order. Conditions: a number's half words are counted. -/
/- The document's half words, third part: sums, differences, order. Conditions: a number's half words are counted. -/
/- Plain numbers for the document's products and shifts of half words. Conditions: none. -/
/- The document's half words, fourth part: products. Conditions: a number's half words are counted. -/
/- The document's half words, fifth part: shifts. Conditions: a number's half words are counted. -/
/- The document's half words, sixth part: bits; are words these half words; powers. Conditions: a number's half words are counted. -/
/- The document's half words, seventh part: powers; how often one number goes into another. Conditions: a number's half words are counted. -/
/- Plain: a numeral made from its last digit on; a row turned round in place; bytes in memory. Conditions: none. -/
/- The document's half words, eighth part: numerals and what they are worth. Conditions: a number's half words are counted. -/
/- The document's answer for chapter 12, walked: Right, number, Layout. Conditions: none. -/
/- The document's answer for chapter 12, walked: Layout; the law LayoutTells. Conditions: the variables that the library reads. -/
/- The law LayoutTells, walked. Conditions: the variables that the library reads. -/
import Derived.Test.YtjhdkdfiadlmcaaGreatDoorNatW
import Derived.Test.YtjhdkdfiadlmcaaGreatDoorNum
import Derived.Deep.AppendLies
import Derived.Deep.QuietTactic
import Derived.BigQuiet
import Derived.Lib.SlBytesRow
import Derived.Test.YtjhdkdfiadlmcaaGreatDoorLyCom
import Derived.Deep.LoopGhost
import Derived.Deep.RegionHeld3
namespace Go.Proofs.YtjhdkdfiadlmcaaGreatDoor
open Go.RowKit Go.Cal
theorem under_u64s : Tryz.prog.underlying 22 = some (.slice 36) := by kernel_rfl
/-- Half words of a number, without noughts at the end. -/
structure NrmH (zs : List Nat) (N : Nat) : Prop where
  dig : Dig 4294967296 zs
  top : Top zs
  val : vl 4294967296 zs = N
theorem NrmH.length_le {zs : List Nat} {N k : Nat} (h : NrmH zs N) (hN : N < 4294967296 ^ k) : zs.length ≤ k := by
  rcases Nat.lt_or_ge k zs.length with hlt | hge
  · exfalso
    have h1 := vl_pos (b := 4294967296) h.top (by intro e; subst e; simp at hlt)
    rw [h.val] at h1
    have h2 : 4294967296 ^ k ≤ 4294967296 ^ (zs.length - 1) := Nat.pow_le_pow_right (by omega) (by omega)
    omega
  · exact hge
theorem NrmH.zero : NrmH [] 0 := ⟨fun x hx => by simp at hx, fun h => absurd rfl h, rfl⟩
theorem NrmH.lt {zs : List Nat} {N : Nat} (h : NrmH zs N) : N < 4294967296 ^ zs.length := h.val ▸ vl_lt h.dig
/-- The value reads as the number N in half words. -/
def IsH (w : World) (v : Value) (k N : Nat) : Prop :=
  ∃ A c zs, v = .slice A (zs : List Nat).length c ∧ RdU w w.heap.size A zs ∧ zs.length ≤ c ∧ (c ≤ maxLen ∧ (A = none → c = 0)) ∧ zs.length ≤ k ∧ NrmH zs N
theorem IsH.below {w w' : World} {v : Value} {k N : Nat} (h : IsH w v k N) (hb : Below w.heap.size w w') : IsH w' v k N := by
  obtain ⟨A, c, zs, h1, h2, h3⟩ := h
  exact ⟨A, c, zs, h1, (h2.below hb).more hb.size, h3⟩
theorem IsH.lt {w : World} {v : Value} {k N : Nat} (h : IsH w v k N) : N < 4294967296 ^ k := by
  obtain ⟨A, c, zs, h1, h2, h3, h4, h5, h6⟩ := h
  exact Nat.lt_of_lt_of_le h6.lt (Nat.pow_le_pow_right (by omega) h5)
theorem IsH.fit {w : World} {v : Value} {k k' N : Nat} (h : IsH w v k N) (hk : N < 4294967296 ^ k') : IsH w v k' N := by
  obtain ⟨A, c, zs, h1, h2, h3, h4, h5, h6⟩ := h
  exact ⟨A, c, zs, h1, h2, h3, h4, h6.length_le hk, h6⟩
def pH (v : Value) (k N : Nat) (w : World) : Prop := IsH w v k N
theorem pH_st (v : Value) (k N : Nat) : Stable (pH v k N) := fun _ _ h hb => IsH.below h hb
/-- What Trim tells. -/
def TrimH (A : Option Addr) (c : Nat) (xs : List Nat) (e : Ending) : Prop :=
  ∃ zs : List Nat, e = .returned (.slice A zs.length c) ∧ (∃ n, zs = xs.take n) ∧ Top zs ∧ ∀ b, vl b zs = vl b xs
theorem TrimH.of {A : Option Addr} {c : Nat} {xs : List Nat} {n : Nat} (h1 : n ≤ xs.length) (h2 : ∀ j, n ≤ j → j < xs.length → xs.getD j 0 = 0) (h3 : n = 0 ∨ xs.getD (n - 1) 0 ≠ 0) :
    TrimH A c xs (.returned (.slice A n c)) := by
  refine ⟨xs.take n, ?_, ⟨n, rfl⟩, top_take h1 h3, fun b => vl_trim h2⟩
  rw [List.length_take, Nat.min_eq_left h1]
set_option maxHeartbeats 400000 in
theorem rtrim_any {B : Nat} {A : Option Addr} {xs : List Nat} (c : Nat) (w : World) (h : RdU w B A xs) (hc : xs.length ≤ c) (hn : xs.length ≤ 1099511627776) (hA : A = none → c = 0) :
    Calls Tryz.prog 50 #[.slice A xs.length c] w fun e w' => TrimH A c xs e ∧ w = w' := by
  go_enter Tryz.func50, Tryz.ntmps50
  go_wp2
  go_loop [3] (fun i => ∃ n : Nat, n ≤ xs.length ∧ i = .int .i64 n ∧ (∀ j, n ≤ j → j < xs.length → xs.getD j 0 = 0)) (fun i => (intOf i).toNat)
  case atStart => exact ⟨xs.length, by omega, rfl, fun j h1 h2 => by omega⟩
  case round =>
    obtain ⟨n, hn1, rfl, hz⟩ := hrel
    replace hz := Lib.hid hz
    by_cases h0 : n = 0
    · subst h0
      cases A with
      | none =>
        obtain rfl := hA rfl
        go_wp2
        go_ret
        exact ⟨.of (Nat.zero_le _) hz.out (.inl rfl), rfl⟩
      | some a =>
        go_wp2
        go_ret
        exact ⟨.of (Nat.zero_le _) hz.out (.inl rfl), rfl⟩
    · obtain ⟨m, rfl⟩ : ∃ m, n = m + 1 := ⟨n - 1, by omega⟩
      obtain ⟨b, off, rfl, hb, hcell⟩ := h.at (i := m) (by omega)
      have hcm := hcell m (by omega)
      clear hcell h
      by_cases hx : xs.getD m 0 = 0
      · rw [hx] at hcm
        replace hx := Lib.hid hx
        go_wp2
        refine ⟨⟨m, by omega, rfl, fun j h1 h2 => ?_⟩, by simp [intOf]⟩
        rcases Nat.eq_or_lt_of_le h1 with rfl | h1
        · exact hx.out
        · exact hz.out j h1 h2
      · have hx0 : (((xs.getD m 0 : Nat) : Int) == 0) = false := by simpa using hx
        replace hx := Lib.hid hx
        generalize hxx : xs.getD m 0 = x at hcm hx0
        replace hxx := Lib.hid hxx
        go_wp2
        go_ret
        exact ⟨.of hn1 hz.out (.inr hx.out), rfl⟩
/-- Trim of what has no noughts at the end. -/
theorem rtrim_same {B : Nat} {A : Option Addr} {xs : List Nat} {N : Nat} (c : Nat) (w : World) (h : RdU w B A xs) (hc : xs.length ≤ c) (hn : xs.length ≤ 1099511627776) (hA : A = none → c = 0) (hx : NrmH xs N) :
    Calls Tryz.prog 50 #[.slice A xs.length c] w fun e w' => e = .returned (.slice A xs.length c) ∧ w = w' := by
  refine (rtrim_any c w h hc hn hA).mono ?_
  rintro e w' ⟨⟨zs, rfl, ⟨n, rfl⟩, ht, hv⟩, rfl⟩
  have : xs.take n = xs := canon_unique (b := 4294967296) (by omega) (dig_take hx.dig n) hx.dig ht hx.top (hv _)
  rw [this]
  exact ⟨rfl, rfl⟩
end Go.Proofs.YtjhdkdfiadlmcaaGreatDoor
namespace Go.Cal
theorem vl_ext {b : Nat} : ∀ {xs ys : List Nat}, (∀ j, xs.getD j 0 = ys.getD j 0) → vl b xs = vl b ys
  | [], [], _ => rfl
  | [], y :: ys, h => by
    have h0 := h 0
    have ih := vl_ext (b := b) (xs := []) (ys := ys) (fun j => by have := h (j + 1); simpa using this)
    simp at h0
    simp only [vl] at ih ⊢
    rw [← h0, ← ih]; simp
  | x :: xs, [], h => by
    have h0 := h 0
    have ih := vl_ext (b := b) (xs := xs) (ys := []) (fun j => by have := h (j + 1); simpa using this)
    simp at h0
    simp only [vl] at ih ⊢
    rw [h0, ih]; simp
  | x :: xs, y :: ys, h => by
    have h0 := h 0
    have ih := vl_ext (b := b) (xs := xs) (ys := ys) (fun j => by have := h (j + 1); simpa using this)
    simp at h0
    simp only [vl]
    rw [h0, ih]
theorem vl_cut {b : Nat} (xs : List Nat) (m : Nat) : vl b xs = vl b (xs.take m) + b ^ m * (xs.getD m 0 + b * vl b (xs.drop (m + 1))) := by
  rcases Nat.lt_or_ge m xs.length with h | h
  · rw [vl_split xs m (by omega), vl_drop xs m h]
  · rw [List.take_of_length_le h, List.drop_eq_nil_of_le (by omega)]
    simp [List.getD_eq_getElem?_getD, List.getElem?_eq_none h, vl]
theorem take_lt {b : Nat} (hb : 0 < b) {xs : List Nat} (d : Dig b xs) (m : Nat) : vl b (xs.take m) < b ^ m := by
  have h1 := vl_lt (dig_take d m)
  have h2 : b ^ (xs.take m).length ≤ b ^ m := Nat.pow_le_pow_right hb (by rw [List.length_take]; omega)
  omega
/-- The greatest place at which two rows differ decides. -/
theorem lex_lt {b : Nat} (hb : 0 < b) {xs ys : List Nat} {m : Nat} (dx : Dig b xs) (he : ∀ j, m < j → xs.getD j 0 = ys.getD j 0) (h : xs.getD m 0 < ys.getD m 0) : vl b xs < vl b ys := by
  rw [vl_cut xs m, vl_cut ys m]
  have h1 := take_lt hb dx m
  have h2 : vl b (xs.drop (m + 1)) = vl b (ys.drop (m + 1)) := vl_ext fun j => by
    have := he (m + 1 + j) (by omega)
    simpa [List.getD_eq_getElem?_getD, List.getElem?_drop] using this
  rw [h2]
  generalize vl b (ys.drop (m + 1)) = V
  have h3 : b ^ m * (xs.getD m 0 + b * V + 1) ≤ b ^ m * (ys.getD m 0 + b * V) := Nat.mul_le_mul_left _ (by omega)
  rw [Nat.mul_add (b ^ m) (xs.getD m 0 + b * V) 1, Nat.mul_one] at h3
  omega
/-- Words as half words. -/
def halves (H : Nat) : List Nat → List Nat
  | [] => []
  | x :: l => x % H :: x / H :: halves H l
theorem halves_length (H : Nat) : ∀ l, (halves H l).length = 2 * l.length
  | [] => rfl
  | x :: l => by simp [halves, halves_length H l]; omega
theorem halves_snoc (H : Nat) : ∀ l x, halves H (l ++ [x]) = halves H l ++ [x % H, x / H]
  | [], _ => rfl
  | y :: l, x => by simp [halves, halves_snoc H l x]
theorem halves_dig {H : Nat} (hH : 0 < H) : ∀ {l : List Nat}, Dig (H * H) l → Dig H (halves H l)
  | [], _ => fun x hx => by simp [halves] at hx
  | y :: l, h => fun x hx => by
    have hy := h y (by simp)
    simp only [halves, List.mem_cons] at hx
    rcases hx with rfl | rfl | hx
    · exact Nat.mod_lt _ hH
    · exact Nat.div_lt_of_lt_mul hy
    · exact halves_dig hH (fun z hz => h z (by simp [hz])) x hx
theorem halves_val (H : Nat) : ∀ l, vl H (halves H l) = vl (H * H) l
  | [] => rfl
  | x :: l => by
    simp only [halves, vl, halves_val H l]
    rw [Nat.mul_add, ← Nat.mul_assoc, ← Nat.add_assoc, Nat.mod_add_div]
theorem take_snoc (xs : List Nat) (i : Nat) (h : i < xs.length) : xs.take (i + 1) = xs.take i ++ [xs.getD i 0] := by
  rw [List.take_succ_eq_append_getElem h, List.getD_eq_getElem?_getD, List.getElem?_eq_getElem h]; rfl
theorem vl_snoc {b : Nat} (L : List Nat) (x : Nat) : vl b (L ++ [x]) = vl b L + b ^ L.length * x := by rw [vl_append]; simp [vl]
/-- The sum, at the head of a round. -/
structure PlusRel (H : Nat) (xs ys L : List Nat) (i c : Nat) : Prop where
  len : L.length = i
  dig : Dig H L
  car : c ≤ 1
  val : vl H L + H ^ i * c = vl H (xs.take i) + vl H (ys.take i)
theorem PlusRel.start (H : Nat) (xs ys : List Nat) : PlusRel H xs ys [] 0 0 := ⟨rfl, fun x hx => by simp at hx, by omega, by simp [vl]⟩
theorem PlusRel.step {H : Nat} {xs ys L : List Nat} {i c x y : Nat} (h : PlusRel H xs ys L i c) (hx : xs.getD i 0 = x) (hy : ys.getD i 0 = y) (bx : x < H) (by' : y < H) :
    PlusRel H xs ys (L ++ [(x + y + c) % H]) (i + 1) ((x + y + c) / H) := by
  have hH : 0 < H := by omega
  have hc := h.car
  refine ⟨by simp [h.len], dig_append h.dig (fun z hz => by simp at hz; subst hz; exact Nat.mod_lt _ hH), ?_, ?_⟩
  · have : (x + y + c) / H < 2 := (Nat.div_lt_iff_lt_mul hH).2 (by omega)
    omega
  · rw [vl_snoc, h.len, vl_getD, vl_getD, hx, hy]
    have := sum_step h.val (show x + y + c = (x + y + c) % H + H * ((x + y + c) / H) by rw [Nat.mod_add_div])
    rw [Nat.pow_succ]
    omega
theorem PlusRel.done {H : Nat} {xs ys L : List Nat} {i : Nat} (h : PlusRel H xs ys L i 0) (h1 : xs.length ≤ i) (h2 : ys.length ≤ i) : vl H L = vl H xs + vl H ys := by
  have := h.val
  rw [vl_take_all _ _ h1, vl_take_all _ _ h2] at this
  omega
/-- The difference, at the head of a round. -/
structure MinusRel (H : Nat) (xs ys L : List Nat) (i c : Nat) : Prop where
  len : L.length = i
  dig : Dig H L
  car : c ≤ 1
  val : vl H L + vl H (ys.take i) = vl H (xs.take i) + H ^ i * c
theorem MinusRel.start (H : Nat) (xs ys : List Nat) : MinusRel H xs ys [] 0 0 := ⟨rfl, fun x hx => by simp at hx, by omega, by simp [vl]⟩
theorem MinusRel.step {H : Nat} {xs ys L : List Nat} {i c x y : Nat} (h : MinusRel H xs ys L i c) (hx : xs.getD i 0 = x) (hy : ys.getD i 0 = y) (bx : x < H) (by' : y < H) :
    MinusRel H xs ys (L ++ [(x + H - y - c) % H]) (i + 1) (1 - (x + H - y - c) / H) := by
  have hH : 0 < H := by omega
  have hc := h.car
  have hq : (x + H - y - c) / H < 2 := (Nat.div_lt_iff_lt_mul hH).2 (by omega)
  have hm := Nat.mod_add_div (x + H - y - c) H
  have hl := Nat.mod_lt (x + H - y - c) hH
  generalize (x + H - y - c) / H = q at *
  generalize (x + H - y - c) % H = s at *
  have hs : s + y + c = x + H * (1 - q) := by
    have : q = 0 ∨ q = 1 := by omega
    rcases this with rfl | rfl
    · simp at hm ⊢; omega
    · simp at hm ⊢; omega
  refine ⟨by simp [h.len], dig_append h.dig (fun z hz => by simp at hz; omega), by omega, ?_⟩
  rw [vl_snoc, h.len, vl_getD, vl_getD, hx, hy]
  have := diff_step h.val hs
  rw [Nat.pow_succ]
  omega
theorem MinusRel.done {H : Nat} {xs ys L : List Nat} {c : Nat} (h : MinusRel H xs ys L xs.length c) (h2 : ys.length ≤ xs.length) (hle : vl H ys ≤ vl H xs) : vl H L = vl H xs - vl H ys := by
  have h3 := h.val
  rw [vl_take_all _ _ (Nat.le_refl _), vl_take_all _ _ h2] at h3
  have h4 := vl_lt h.dig
  rw [h.len] at h4
  have h5 := h.car
  have h6 : c = 0 ∨ c = 1 := by omega
  rcases h6 with rfl | rfl
  · omega
  · rw [Nat.mul_one] at h3
    omega
end Go.Cal
namespace Go.Proofs.YtjhdkdfiadlmcaaGreatDoor
open Go.RowKit Go.Cal
theorem one_cell (w : World) (t : TypeId) (v : Value) (j : Nat) (u : Value) (hj : [v][j]? = some u) : (w.alloc (.cells #[v] t)).cell? ((⟨w.heap.size, 0, none⟩ : Addr).add j) = some u := by
  rcases j with _ | j
  · simp at hj
    subst hj
    simp [Addr.add_lit]
  · simp at hj
theorem two_cells (w : World) (t : TypeId) (v v2 : Value) (j : Nat) (u : Value) (hj : [v, v2][j]? = some u) : (w.alloc (.cells #[v, v2] t)).cell? ((⟨w.heap.size, 0, none⟩ : Addr).add j) = some u := by
  rcases j with _ | _ | j
  · simp at hj
    subst hj
    simp [Addr.add_lit]
  · simp at hj
    subst hj
    simp [Addr.add_lit]
  · simp at hj
/-- A slice in memory that was not there. -/
def New (w : World) (v : Value) : Prop := ∀ A n c, v = .slice A n c → ∀ a, A = some a → w.heap.size ≤ a.block
/-- A row that the call has made, read. -/
theorem rd_of_own {w : World} {base n : Nat} {v : Value} {xs : List Nat} (h : w.ownsRow base 36 1 v n (lU xs)) (hn : n = xs.length) :
    ∃ A c, v = .slice A xs.length c ∧ RdU w w.heap.size A xs ∧ xs.length ≤ c ∧ c ≤ maxLen ∧ (A = none → c = 0) ∧ (∀ a, A = some a → base ≤ a.block) := by
  subst hn
  obtain ⟨_, ⟨rfl, h1⟩ | ⟨g, cap, cur, rfl, hg, hw, hn, hm, hs, ht⟩⟩ := h
  · obtain rfl := List.eq_nil_of_length_eq_zero h1
    exact ⟨none, 0, rfl, .nil, Nat.le_refl _, by unfold maxLen; omega, fun _ => rfl, fun a e => by cases e⟩
  · have hlt := (Array.getElem?_eq_some_iff.1 hw).1
    refine ⟨_, cap, rfl, ⟨.inr ⟨g, 0, rfl, hlt⟩, fun b off e j hj => ?_⟩, hn, hm, fun e => (by cases e), fun a e => by cases e; exact hg⟩
    injection e with e
    injection e with e1 e2
    subst e1; subst e2
    have e3 : cur.toList[j]? = some (.int .u64 ((xs.getD j 0 : Nat) : Int)) := by
      rw [← lU_at xs j hj, ← ht, List.getElem?_take_of_lt (by omega)]
    simp [World.cell?, hw, ← Array.getElem?_toList, e3]
theorem lU_snoc (xs : List Nat) (x : Nat) : lU xs ++ [.int .u64 (x : Int)] = lU (xs ++ [x]) := by simp [lU]
theorem lU_snoc2 (xs : List Nat) (x y : Nat) : lU xs ++ [.int .u64 (x : Int), .int .u64 (y : Int)] = lU (xs ++ [x, y]) := by simp [lU]
/-- A call tells one number in half words. -/
def TellsH (w : World) (k N : Nat) (e : Ending) (w' : World) : Prop := ∃ v, e = .returned v ∧ pH v k N w' ∧ Below w.heap.size w w' ∧ New w v
/-- The end of a call that hands back what Trim makes of its own row. -/
theorem trim_own {w wr : World} {n k N : Nat} {v : Value} {xs : List Nat} (hown : wr.ownsRow w.heap.size 36 1 v n (lU xs)) (hn : n = xs.length) (hb : Below w.heap.size w wr) (hl : xs.length ≤ 1099511627776) (hd : Dig 4294967296 xs) (hv : vl 4294967296 xs = N) (hk : N < 4294967296 ^ k) :
    Calls Tryz.prog 50 #[v] wr (TellsH w k N) := by
  obtain ⟨A, c, rfl, hr, h1, h2, h3, h4⟩ := rd_of_own hown hn
  refine (rtrim_any c wr hr h1 hl h3).mono ?_
  rintro e w1 ⟨⟨zs, rfl, ⟨m, rfl⟩, ht, hv'⟩, rfl⟩
  have hz : NrmH (xs.take m) N := ⟨dig_take hd m, ht, (hv' _).trans hv⟩
  exact ⟨_, rfl, ⟨A, c, xs.take m, rfl, hr.take m, by rw [List.length_take]; omega, ⟨h2, h3⟩, hz.length_le hk, hz⟩, hb, fun A' n' c' e a ha => by cases e; exact h4 a ha⟩
set_option maxRecDepth 100000 in
set_option maxHeartbeats 2000000 in
theorem halves_any {v1 : Value} {k X : Nat} (w : World) (h1 : IsN w v1 k X) (b1 : k ≤ 1048576) : Calls Tryz.prog 23 #[v1] w (TellsH w (2 * k) X) := by
  have hX := h1.lt
  obtain ⟨A, c, xs, rfl, hr, hc, hl, d, hv⟩ := h1
  obtain ⟨i0, hi, hi0, hi1, hi2⟩ := info_parts info_u64
  replace hv := Lib.hid hv
  replace hX := Lib.hid hX
  replace d := Lib.hid d
  go_enter Tryz.func23, Tryz.ntmps23
  go_wp2
  go_loopg [3, 4] xs.length (fun k ov iv wr => ∃ i : Nat, iv = .int .i64 i ∧ i + k = xs.length ∧ wr.ownsRow w.heap.size 36 1 ov (2 * i) (lU (halves 4294967296 (xs.take i))) ∧ Below w.heap.size w wr)
  case atStart => exact ⟨0, rfl, by omega, by rw [List.take_zero]; exact World.ownsRow_lit w #[] 0 (Nat.le_refl _) (by unfold maxLen; omega) rfl, (Below.refl _ _).alloc (Nat.le_refl _) _⟩
  case round =>
    obtain ⟨i, rfl, hik, hown, hbw⟩ := hrel
    have hzw := hbw.size
    by_cases h0 : gk = 0
    · subst h0
      have hi' : i = xs.length := by omega
      subst hi'
      rw [List.take_length] at hown
      have hvv : vl 4294967296 (halves 4294967296 xs) = X := by rw [halves_val, ← hv.out]
      have ht := trim_own (k := 2 * k) hown (by rw [halves_length]) hbw (by rw [halves_length]; omega) (halves_dig (by omega) d.out) hvv (by rw [Nat.pow_mul]; exact hX.out)
      replace ht := Lib.hid ht
      clear hown hvv
      go_wp2_with fail
      refine ht.out.mono ?_
      rintro e w1 ⟨u, rfl, hu, hb⟩
      go_wp2
      go_ret
      exact ⟨u, rfl, hu, hb⟩
    · have hix : i < xs.length := by omega
      have hii : (i : Int) < (xs.length : Int) := by omega
      obtain ⟨b, off, rfl, hb, hcx⟩ := (hr.below hbw).at hix
      have hx0 := hcx i hix
      have hts := take_snoc xs i hix
      obtain ⟨x, hx⟩ : ∃ x, xs.getD i 0 = x := ⟨_, rfl⟩
      rw [hx] at hx0 hts
      replace hts := Lib.hid hts
      replace hx := Lib.hid hx
      clear hcx hr
      have hxm : (x : Int).tmod 4294967296 = ((x % 4294967296 : Nat) : Int) := by rw [Int.tmod_eq_emod_of_nonneg (by omega)]; omega
      have hxd : ((x : Int) / 4294967296) = ((x / 4294967296 : Nat) : Int) := by omega
      obtain ⟨lo, hlo⟩ : ∃ l, x % 4294967296 = l := ⟨_, rfl⟩
      obtain ⟨hx2, hhi⟩ : ∃ l, x / 4294967296 = l := ⟨_, rfl⟩
      rw [hlo] at hxm
      rw [hhi] at hxd
      replace hlo := Lib.hid hlo
      replace hhi := Lib.hid hhi
      go_wp2_with fail
      go_region_law (refine step_append_lies _ rfl (.tmp 12) (.tmp 23) 22 rfl w.heap.size 36 i0 (.int .u64 0) 1 8 under_u64s hi hi0 hi1 hi2 rfl (by decide) u3 (2 * i) (lU (halves 4294967296 (xs.take i))) (by simp [Act.eval]) (hown.drew.alloc _) ⟨wr.heap.size, 0, none⟩ 2 2 [.int .u64 lo, .int .u64 hx2] (by simp [Act.eval]) rfl (two_cells wr.drew 36 _ _) (fun u hu => by simp at hu; rcases hu with rfl | rfl <;> rfl) (by omega) (by unfold maxLen; omega) (by omega) (by simp; omega) _ rfl (fun g cap w' hown' hgr _ _ => ?_))
      all_goals
        have hh : lU (halves 4294967296 (xs.take i)) ++ [.int .u64 (lo : Int), .int .u64 (hx2 : Int)] = lU (halves 4294967296 (xs.take (i + 1))) := by rw [hts.out, halves_snoc, lU_snoc2, hlo.out, hhi.out]
        rw [hh] at hown'
        have hb2 := ((hbw.drew).alloc hzw (.cells #[.int .u64 (lo : Int), .int .u64 (hx2 : Int)] 36)).grown hgr (by simp; omega) (fun j hj => (hown.lt j hj).1)
        clear hh hown hgr
        go_wp2
        go_roundg (gk - 1)
        case measure => omega
        case rel => exact ⟨i + 1, by go_num, by omega, hown', hb2⟩
end Go.Proofs.YtjhdkdfiadlmcaaGreatDoor
namespace Go.Proofs.YtjhdkdfiadlmcaaGreatDoor
open Go.RowKit Go.Cal
end Go.Proofs.YtjhdkdfiadlmcaaGreatDoor
namespace Go.Cal
/-- A row of the product, at its beginning. -/
structure TimesRow (H : Nat) (xs ys L : List Nat) (i : Nat) : Prop where
  len : L.length = xs.length + ys.length + 1
  dig : Dig H L
  zero : ∀ j, i + ys.length ≤ j → L.getD j 0 = 0
  val : vl H L = vl H (xs.take i) * vl H ys
theorem TimesRow.start {H : Nat} (hH : 0 < H) (xs ys : List Nat) : TimesRow H xs ys (List.replicate (xs.length + ys.length + 1) 0) 0 :=
  ⟨by simp, dig_zeros hH _, fun j _ => by simp [List.getD_eq_getElem?_getD, List.getElem?_replicate]; split <;> rfl, by rw [vl_zeros]; simp [vl]⟩
/-- Within a row. -/
structure TimesIn (H : Nat) (xs ys L : List Nat) (i x k c : Nat) : Prop where
  len : L.length = xs.length + ys.length + 1
  dig : Dig H L
  zero : ∀ j, i + ys.length < j ∨ (j = i + ys.length ∧ k ≤ ys.length) → L.getD j 0 = 0
  car : c < H
  kle : k ≤ ys.length + 1
  last : k = ys.length + 1 → c = 0
  val : vl H L + H ^ i * H ^ k * c = vl H (xs.take i) * vl H ys + H ^ i * (x * vl H (ys.take k))
theorem TimesRow.into {H : Nat} (hH : 0 < H) {xs ys L : List Nat} {i : Nat} (h : TimesRow H xs ys L i) (x : Nat) : TimesIn H xs ys L i x 0 0 :=
  ⟨h.len, h.dig, fun j hj => h.zero j (by omega), hH, by omega, fun _ => rfl, by rw [h.val]; simp [vl]⟩
theorem TimesIn.step {H : Nat} {xs ys L : List Nat} {i x k c y o : Nat} (h : TimesIn H xs ys L i x k c) (hi : i < xs.length) (hk : k ≤ ys.length) (hx : x < H) (hy : ys.getD k 0 = y) (by' : y < H) (ho : L.getD (i + k) 0 = o) :
    TimesIn H xs ys (L.set (i + k) ((x * y + o + c) % H)) i x (k + 1) ((x * y + o + c) / H) := by
  have hH : 0 < H := by omega
  have hlen := h.len
  have hc := h.car
  have hoH : o < H := ho ▸ dig_getD hH h.dig _
  have hS : x * y + o + c < H * H := by
    have h1 : x * y ≤ (H - 1) * (H - 1) := Nat.mul_le_mul (by omega) (by omega)
    obtain ⟨g, rfl⟩ : ∃ g, H = g + 1 := ⟨H - 1, by omega⟩
    simp only [Nat.add_sub_cancel] at h1
    have h2 : (g + 1) * (g + 1) = g * g + g + g + 1 := by rw [Nat.add_mul, Nat.mul_add]; omega
    omega
  have hset := vl_set (b := H) L (i + k) ((x * y + o + c) % H) (by omega)
  rw [ho] at hset
  have hm := Nat.mod_add_div (x * y + o + c) H
  refine ⟨by rw [List.length_set]; exact hlen, dig_set h.dig _ (Nat.mod_lt _ hH), fun j hj => ?_, Nat.div_lt_of_lt_mul hS, by omega, fun e => ?_, ?_⟩
  · rw [getD_set_ne (by omega)]
    exact h.zero j (by omega)
  · have hke : k = ys.length := by omega
    have hy0 : y = 0 := by rw [← hy, hke]; simp [List.getD_eq_getElem?_getD]
    have ho0 : o = 0 := by rw [← ho, hke]; exact h.zero _ (.inr ⟨rfl, by omega⟩)
    rw [hy0, ho0, Nat.mul_zero, Nat.zero_add]
    exact Nat.div_eq_of_lt hc
  · have hv := h.val
    rw [Nat.pow_add] at hset
    rw [vl_getD, hy, Nat.pow_succ]
    generalize (x * y + o + c) / H = q at *
    generalize (x * y + o + c) % H = s at *
    generalize vl H (L.set (i + k) s) = VL at *
    generalize vl H L = V at *
    generalize vl H (ys.take k) = W at *
    generalize vl H (xs.take i) * vl H ys = A at *
    generalize H ^ i = P at *
    generalize H ^ k = Q at *
    have e1 : P * Q * s + P * (Q * H) * q = P * Q * (x * y) + P * Q * o + P * Q * c := by
      rw [show P * (Q * H) * q = P * Q * (H * q) by simp only [Nat.mul_assoc], ← Nat.mul_add, hm, Nat.mul_add, Nat.mul_add]
    have e2 : P * (x * (W + Q * y)) = P * (x * W) + P * Q * (x * y) := by
      rw [Nat.mul_add x, Nat.mul_add P]
      congr 1
      simp only [Nat.mul_assoc, Nat.mul_left_comm]
    rw [e2]
    omega
theorem TimesIn.out {H : Nat} {xs ys L : List Nat} {i x k : Nat} (h : TimesIn H xs ys L i x k 0) (hx : xs.getD i 0 = x) (hk : ys.length ≤ k) : TimesRow H xs ys L (i + 1) := by
  refine ⟨h.len, h.dig, fun j hj => h.zero j (.inl (by omega)), ?_⟩
  have := h.val
  rw [Nat.mul_zero, Nat.add_zero, vl_take_all ys k hk] at this
  rw [this, vl_getD, hx, Nat.add_mul, Nat.mul_assoc]
/-- Shifted up, at the head of a round. -/
structure UpRel (H : Nat) (xs L : List Nat) (q p i c : Nat) : Prop where
  len : L.length = q + i
  dig : Dig H L
  car : c < p
  val : vl H L + H ^ (q + i) * c = vl H (xs.take i) * p * H ^ q
theorem UpRel.start {H : Nat} (hH : 0 < H) (xs : List Nat) (q : Nat) {p : Nat} (hp : 0 < p) : UpRel H xs (List.replicate q 0) q p 0 0 :=
  ⟨by simp, dig_zeros hH _, hp, by rw [vl_zeros]; simp [vl]⟩
theorem UpRel.step {H : Nat} {xs L : List Nat} {q p i c x : Nat} (h : UpRel H xs L q p i c) (hx : xs.getD i 0 = x) (bx : x < H) : UpRel H xs (L ++ [(x * p + c) % H]) q p (i + 1) ((x * p + c) / H) := by
  have hH : 0 < H := by omega
  have hc := h.car
  have hm := Nat.mod_add_div (x * p + c) H
  refine ⟨by simp [h.len]; omega, dig_append h.dig (fun z hz => by simp at hz; subst hz; exact Nat.mod_lt _ hH), ?_, ?_⟩
  · refine (Nat.div_lt_iff_lt_mul hH).2 ?_
    have : (x + 1) * p ≤ H * p := Nat.mul_le_mul_right _ bx
    rw [Nat.add_mul] at this
    rw [Nat.mul_comm p H]
    omega
  · have hv := h.val
    rw [vl_snoc, h.len, vl_getD, hx, show q + (i + 1) = q + i + 1 by omega, Nat.pow_succ]
    generalize (x * p + c) / H = u at *
    generalize (x * p + c) % H = s at *
    have e1 : H ^ (q + i) * s + H ^ (q + i) * H * u = H ^ (q + i) * (x * p) + H ^ (q + i) * c := by rw [Nat.mul_assoc, ← Nat.mul_add, hm, Nat.mul_add]
    have e2 : (vl H (xs.take i) + H ^ i * x) * p * H ^ q = vl H (xs.take i) * p * H ^ q + H ^ (q + i) * (x * p) := by
      rw [Nat.add_mul, Nat.add_mul]
      congr 1
      rw [Nat.pow_add]
      simp only [Nat.mul_assoc, Nat.mul_left_comm, Nat.mul_comm]
    rw [e2]
    omega
theorem UpRel.done {H : Nat} {xs L : List Nat} {q p c : Nat} (h : UpRel H xs L q p xs.length c) : vl H (L ++ [c]) = vl H xs * p * H ^ q := by
  rw [vl_snoc, h.len, h.val, vl_take_all _ _ (Nat.le_refl _)]
/-- Shifted down, at the head of a round; ys: the half words from the place on. -/
structure DownRel (H : Nat) (ys L : List Nat) (p i : Nat) : Prop where
  len : L.length = i
  dig : Dig H L
  val : vl H L * p + ys.getD 0 0 % p = vl H (ys.take i) + H ^ i * (ys.getD i 0 % p)
theorem DownRel.start (H : Nat) (ys : List Nat) (p : Nat) : DownRel H ys [] p 0 := ⟨rfl, fun x hx => by simp at hx, by simp [vl]⟩
theorem DownRel.step {H : Nat} {ys L : List Nat} {p i o : Nat} (h : DownRel H ys L p i) (ho : o < H) (he : o * p + ys.getD i 0 % p = ys.getD i 0 + H * (ys.getD (i + 1) 0 % p)) : DownRel H ys (L ++ [o]) p (i + 1) := by
  refine ⟨by simp [h.len], dig_append h.dig (fun z hz => by simp at hz; omega), ?_⟩
  have hv := h.val
  rw [vl_snoc, h.len, vl_getD, Nat.add_mul, Nat.pow_succ]
  have e1 : H ^ i * o * p + H ^ i * (ys.getD i 0 % p) = H ^ i * ys.getD i 0 + H ^ i * H * (ys.getD (i + 1) 0 % p) := by
    rw [Nat.mul_assoc, ← Nat.mul_add, he, Nat.mul_add, Nat.mul_assoc]
  omega
theorem DownRel.done {H : Nat} {ys L : List Nat} {p : Nat} (h : DownRel H ys L p ys.length) (hp : 0 < p) : vl H L = vl H ys / p := by
  have hv := h.val
  rw [vl_take_all _ _ (Nat.le_refl _), show ys.getD ys.length 0 = 0 by simp [List.getD_eq_getElem?_getD], Nat.zero_mod, Nat.mul_zero, Nat.add_zero] at hv
  rw [← hv, Nat.mul_comm, Nat.mul_add_div hp, Nat.div_eq_of_lt (Nat.mod_lt _ hp), Nat.add_zero]
end Go.Cal
namespace Go.Proofs.YtjhdkdfiadlmcaaGreatDoor
open Go.RowKit Go.Cal
/-- The end of a call that hands back what Trim makes of a row that it has made whole. -/
theorem trim_blk {w wr : World} {g n k N : Nat} {L : List Nat} (hB : BlkU wr g 36 L) (hg : w.heap.size ≤ g) (hn : L.length = n) (hb : Below w.heap.size w wr) (hl : n ≤ 1099511627776) (hd : Dig 4294967296 L) (hv : vl 4294967296 L = N) (hk : N < 4294967296 ^ k) :
    Calls Tryz.prog 50 #[.slice (some ⟨g, 0, none⟩) n n] wr (TellsH w k N) := by
  subst hn
  have hr := (hB.rd 0 L.length (by omega)).more hB.lt
  simp only [List.drop_zero, List.take_length] at hr
  refine (rtrim_any L.length wr hr (Nat.le_refl _) hl (fun e => by cases e)).mono ?_
  rintro e w1 ⟨⟨zs, rfl, ⟨m, rfl⟩, ht, hv'⟩, rfl⟩
  have hz : NrmH (L.take m) N := ⟨dig_take hd m, ht, (hv' _).trans hv⟩
  exact ⟨_, rfl, ⟨_, _, L.take m, rfl, hr.take m, by rw [List.length_take]; omega, ⟨by unfold maxLen; omega, fun e => by cases e⟩, hz.length_le hk, hz⟩, hb, fun A' n' c' e a ha => by cases e; cases ha; exact hg⟩
end Go.Proofs.YtjhdkdfiadlmcaaGreatDoor
namespace Go.Proofs.YtjhdkdfiadlmcaaGreatDoor
open Go.RowKit Go.Cal
theorem own_made (w : World) (q : Nat) (hq : q ≤ 1099511627776) : (w.alloc (.cells (madeCells #[.int .u64 0] q) 36)).ownsRow w.heap.size 36 1 (.slice (some ⟨w.heap.size, 0, none⟩) q q) q (lU (List.replicate q 0)) := by
  have h := World.ownsRow_lit (e := 36) (size := 1) (base := w.heap.size) w (madeCells #[.int .u64 0] q) q (Nat.le_refl _) (by unfold maxLen; omega) (by rw [← Array.length_toList, toList_madeCells_one]; simp)
  rw [toList_madeCells_one] at h
  rw [show lU (List.replicate q 0) = List.replicate q (.int .u64 0) by simp [lU]]
  exact h
theorem down_word {u v r : Nat} (hr : r < 32) (hu : u < 4294967296) : (u + 4294967296 * v) / 2 ^ r % 4294967296 * 2 ^ r + u % 2 ^ r = u + 4294967296 * (v % 2 ^ r) := by
  have hp := Nat.two_pow_pos r
  obtain ⟨m, hm⟩ : ∃ m, 4294967296 = 2 ^ r * m := ⟨2 ^ (32 - r), by rw [← Nat.pow_add, show r + (32 - r) = 32 by omega]⟩
  have hm0 : 0 < m := Nat.pos_of_ne_zero (by rintro rfl; simp at hm)
  have h1 : (u + 4294967296 * v) / 2 ^ r = u / 2 ^ r + m * v := by rw [hm, Nat.mul_assoc, Nat.add_mul_div_left _ _ hp]
  have h2 : u / 2 ^ r < m := by rw [Nat.div_lt_iff_lt_mul hp, Nat.mul_comm, ← hm]; exact hu
  have h3 : (u / 2 ^ r + m * v) % 4294967296 = u / 2 ^ r + m * (v % 2 ^ r) := by
    rw [hm, Nat.mul_comm (2 ^ r) m, Nat.mod_mul, Nat.add_mul_mod_self_left, Nat.mod_eq_of_lt h2, Nat.add_mul_div_left _ _ hm0, Nat.div_eq_of_lt h2, Nat.zero_add]
  rw [h1, h3, Nat.add_mul]
  have h4 : m * (v % 2 ^ r) * 2 ^ r = 4294967296 * (v % 2 ^ r) := by rw [hm, Nat.mul_comm (2 ^ r) m, Nat.mul_assoc, Nat.mul_assoc, Nat.mul_comm (v % 2 ^ r)]
  have h5 := Nat.div_add_mod u (2 ^ r)
  rw [Nat.mul_comm] at h5
  omega
end Go.Proofs.YtjhdkdfiadlmcaaGreatDoor
namespace Go.Proofs.YtjhdkdfiadlmcaaGreatDoor
open Go.RowKit Go.Cal
theorem blen_half {x : Nat} (h : 0 < x) : blen x = blen (x / 2) + 1 := by
  unfold blen
  rw [if_neg (by omega)]
  by_cases h2 : x / 2 = 0
  · rw [if_pos h2]
    have : x = 1 := by omega
    subst this; rfl
  · rw [if_neg h2]
    have h1 := Nat.log2_self_le h2
    have h3 := Nat.lt_log2_self (n := x / 2)
    have h4 : x.log2 = (x / 2).log2 + 1 := by
      refine (Nat.log2_eq_iff (by omega)).2 ⟨?_, ?_⟩
      · rw [Nat.pow_succ]; omega
      · rw [Nat.pow_succ]; omega
    omega
theorem blen_join {lo m x : Nat} (hx : 0 < x) (hl : lo < 2 ^ m) : blen (lo + 2 ^ m * x) = m + blen x := by
  obtain ⟨l, hb⟩ : ∃ l, blen x = l + 1 := ⟨blen x - 1, by have := blen_half hx; omega⟩
  have h1 := blen_lt x
  rw [hb] at h1 ⊢
  have h2 : 2 ^ l ≤ x := by
    unfold blen at hb
    rw [if_neg (by omega)] at hb
    have h4 := Nat.log2_self_le (n := x) (by omega)
    rwa [show x.log2 = l by omega] at h4
  refine blen_of (k := m + l) ?_ ?_
  · rw [Nat.pow_add]
    have := Nat.mul_le_mul_left (2 ^ m) h2
    omega
  · rw [Nat.add_assoc, Nat.pow_add]
    have := Nat.mul_le_mul_left (2 ^ m) (show x + 1 ≤ 2 ^ (l + 1) from h1)
    rw [Nat.mul_add] at this
    omega
theorem top_pos {zs : List Nat} {m : Nat} (t : Top zs) (hm : zs.length = m + 1) : 0 < zs.getD m 0 := by
  have h1 := t (by intro e; subst e; simp at hm)
  rw [List.getLast_eq_getElem] at h1
  rw [List.getD_eq_getElem?_getD, List.getElem?_eq_getElem (by omega)]
  have : zs[zs.length - 1]'(by omega) = zs[m]'(by omega) := by congr 1; omega
  rw [this] at h1
  exact Nat.pos_of_ne_zero h1
theorem vl_bit32 {xs : List Nat} (d : Dig 4294967296 xs) (i : Nat) : (xs.getD (i / 32) 0).testBit (i % 32) = (vl 4294967296 xs).testBit i := by
  rw [← vl_at (by omega) d, show 4294967296 = 2 ^ 32 from rfl, ← Nat.pow_mul, Nat.testBit_mod_two_pow]
  rw [decide_eq_true (Nat.mod_lt i (by omega)), Bool.true_and, ← Nat.shiftRight_eq_div_pow, Nat.testBit_shiftRight]
  congr 1
  omega
theorem bit_val32 (x r : Nat) : ((((x : Int) / 2 ^ r).tmod 2 == 1) : Bool) = x.testBit r := by
  have e1 : (x : Int) / 2 ^ r = ((x / 2 ^ r : Nat) : Int) := by push_cast; rfl
  rw [e1, Int.tmod_eq_emod_of_nonneg (Int.natCast_nonneg _), Nat.testBit_eq_decide_div_mod_eq, Bool.eq_iff_iff]
  simp
  omega
theorem IsH.lit (w : World) (L : List Nat) (cs : Array Value) (k N : Nat) (hcs : cs = (lU L).toArray) (hd : L.all (· < 4294967296) = true) (ht : Top L) (hk : L.length = k) (hk' : k ≤ 1099511627776) (hv : vl 4294967296 L = N) : IsH (w.alloc (.cells cs 36)) (.slice (some ⟨w.heap.size, 0, none⟩) k k) k N := by
  subst hk; subst hv
  have hrd := ((BlkU.lit w 36 L cs hcs).rd 0 L.length (by omega)).more (B' := (w.alloc (.cells cs 36)).heap.size) (by simp)
  simp only [List.drop_zero, List.take_length] at hrd
  have hl : L.length ≤ maxLen := by unfold maxLen; omega
  exact ⟨_, _, L, rfl, hrd, Nat.le_refl _, ⟨hl, fun e => by cases e⟩, Nat.le_refl _, fun x hx => by simpa using List.all_eq_true.1 hd x hx, ht, rfl⟩
end Go.Proofs.YtjhdkdfiadlmcaaGreatDoor
namespace Go.Proofs.YtjhdkdfiadlmcaaGreatDoor
open Go.RowKit Go.Cal
theorem size_alloc1 (w : World) (o : Obj) : (w.alloc o).heap.size = w.heap.size + 1 := by simp
/-- A call tells one number in half words. -/
def TellsH0 (w : World) (k N : Nat) (e : Ending) (w' : World) : Prop := ∃ v, e = .returned v ∧ pH v k N w' ∧ Below w.heap.size w w'
/-- A slice of words that the text itself lays. -/
theorem isN_lit (w : World) (L : List Nat) (cs : Array Value) (k N : Nat) (hcs : cs = (lU L).toArray) (hd : Dig 18446744073709551616 L) (hk : L.length = k) (hv : vl 18446744073709551616 L = N) : IsN (w.alloc (.cells cs 36)) (.slice (some ⟨w.heap.size, 0, none⟩) k k) k N := by
  subst hk; subst hv
  exact .lit w L cs hcs hd
/-- How often, digit by digit. -/
structure OverRel (H : Nat) (n X Y : Nat) (L : List Nat) (i R : Nat) : Prop where
  len : L.length = n
  dig : Dig H L
  val : vl H L = 2 ^ i * (X / 2 ^ i / Y)
  rest : R = X / 2 ^ i % Y
theorem half_step (X m : Nat) : X / 2 ^ m = 2 * (X / 2 ^ (m + 1)) + (if X.testBit m then 1 else 0) := by
  rw [Nat.testBit_eq_decide_div_mod_eq, Nat.pow_succ, ← Nat.div_div_eq_div_mul]
  have h1 := Nat.div_add_mod (X / 2 ^ m) 2
  by_cases h : X / 2 ^ m % 2 = 1
  · simp [h]; omega
  · simp [h]; omega
theorem over_less {H n X Y : Nat} {L : List Nat} {m R b : Nat} (h : OverRel H n X Y L (m + 1) R) (hY : 0 < Y) (hb : X / 2 ^ m = 2 * (X / 2 ^ (m + 1)) + b) (hlt : 2 * R + b < Y) : OverRel H n X Y L m (2 * R + b) := by
  have hr := h.rest
  have hd := Nat.div_add_mod (X / 2 ^ (m + 1)) Y
  rw [← hr] at hd
  have hval := h.val
  generalize X / 2 ^ (m + 1) / Y = K at hd hval
  have e : X / 2 ^ m = Y * (2 * K) + (2 * R + b) := by
    rw [hb, Nat.mul_left_comm]; omega
  refine ⟨h.len, h.dig, ?_, ?_⟩
  · rw [hval, e, Nat.mul_add_div hY, Nat.div_eq_of_lt hlt]; simp only [Nat.add_zero, Nat.pow_succ, Nat.mul_assoc]
  · rw [e, Nat.mul_add_mod, Nat.mod_eq_of_lt hlt]
theorem over_more {n X Y : Nat} {L : List Nat} {m R b d : Nat} (h : OverRel 4294967296 n X Y L (m + 1) R) (hY : 0 < Y) (hb1 : b ≤ 1) (hb : X / 2 ^ m = 2 * (X / 2 ^ (m + 1)) + b) (hge : Y ≤ 2 * R + b) (hm : m / 32 < n) (hd : L.getD (m / 32) 0 = d) :
    d + 2 ^ (m % 32) < 4294967296 ∧ OverRel 4294967296 n X Y (L.set (m / 32) (d + 2 ^ (m % 32))) m (2 * R + b - Y) := by
  have hr := h.rest
  have hlt : R < Y := hr ▸ Nat.mod_lt _ hY
  have hdm := Nat.div_add_mod (X / 2 ^ (m + 1)) Y
  rw [← hr] at hdm
  generalize hK : X / 2 ^ (m + 1) / Y = K at hdm
  have hr32 := Nat.mod_lt m (show 0 < 32 by omega)
  have e : X / 2 ^ m = Y * (2 * K + 1) + (2 * R + b - Y) := by
    rw [hb, Nat.mul_add, Nat.mul_left_comm]; omega
  have hdb : d + 2 ^ (m % 32) < 4294967296 := by
    have h1 := vl_at (b := 4294967296) (by omega) h.dig (m / 32)
    rw [hd, h.val, hK] at h1
    have h2 : 2 ^ (m + 1) * K / 4294967296 ^ (m / 32) = 2 ^ (m % 32 + 1) * K := by
      rw [show 4294967296 ^ (m / 32) = 2 ^ (32 * (m / 32)) by rw [show 4294967296 = 2 ^ 32 from rfl, ← Nat.pow_mul], show m + 1 = 32 * (m / 32) + (m % 32 + 1) by omega, Nat.pow_add, Nat.mul_assoc, Nat.mul_div_cancel_left _ (Nat.two_pow_pos _)]
    rw [h2] at h1
    obtain ⟨M, hM⟩ : ∃ M, 4294967296 = 2 ^ (m % 32 + 1) * M := ⟨2 ^ (31 - m % 32), by rw [← Nat.pow_add, show m % 32 + 1 + (31 - m % 32) = 32 by omega]⟩
    rw [hM, Nat.mul_mod_mul_left] at h1
    have hM0 : 0 < M := Nat.pos_of_ne_zero (by rintro rfl; simp at hM)
    have h3 := Nat.mod_lt K hM0
    have h4 := Nat.mul_le_mul_left (2 ^ (m % 32 + 1)) (show K % M + 1 ≤ M from h3)
    rw [Nat.mul_add, h1, ← hM, Nat.mul_one, Nat.pow_succ] at h4
    have := Nat.two_pow_pos (m % 32)
    omega
  refine ⟨hdb, by rw [List.length_set]; exact h.len, dig_set h.dig _ hdb, ?_, ?_⟩
  · have hset := vl_set (b := 4294967296) L (m / 32) (d + 2 ^ (m % 32)) (by rw [h.len]; exact hm)
    rw [hd, h.val, hK, Nat.mul_add] at hset
    have hp : 4294967296 ^ (m / 32) * 2 ^ (m % 32) = 2 ^ m := by rw [show 4294967296 = 2 ^ 32 from rfl, ← Nat.pow_mul, ← Nat.pow_add]; congr 1; omega
    rw [hp] at hset
    rw [e, Nat.mul_add_div hY, Nat.div_eq_of_lt (show 2 * R + b - Y < Y by omega), Nat.add_zero, Nat.mul_add, Nat.mul_one]
    rw [Nat.pow_succ, Nat.mul_assoc] at hset
    omega
  · rw [e, Nat.mul_add_mod, Nat.mod_eq_of_lt (show 2 * R + b - Y < Y by omega)]
/-- The end of a row made whole: what Trim makes of it; the world stays. -/
theorem trim_blk_same {wr : World} {g n k N : Nat} {L : List Nat} (hB : BlkU wr g 36 L) (hn : L.length = n) (hl : n ≤ 1099511627776) (hd : Dig 4294967296 L) (hv : vl 4294967296 L = N) (hk : N < 4294967296 ^ k) :
    Calls Tryz.prog 50 #[.slice (some ⟨g, 0, none⟩) n n] wr fun e w' => ∃ v, e = .returned v ∧ pH v k N w' ∧ wr = w' := by
  subst hn
  have hr := (hB.rd 0 L.length (by omega)).more hB.lt
  simp only [List.drop_zero, List.take_length] at hr
  refine (rtrim_any L.length wr hr (Nat.le_refl _) hl (fun e => by cases e)).mono ?_
  rintro e w1 ⟨⟨zs, rfl, ⟨m, rfl⟩, ht, hv'⟩, rfl⟩
  have hz : NrmH (L.take m) N := ⟨dig_take hd m, ht, (hv' _).trans hv⟩
  exact ⟨_, rfl, ⟨_, _, L.take m, rfl, hr.take m, by rw [List.length_take]; omega, ⟨by unfold maxLen; omega, fun e => by cases e⟩, hz.length_le hk, hz⟩, rfl⟩
/-- A call tells two numbers in half words. -/
def TellsHH (w : World) (k N k' N' : Nat) (e : Ending) (w' : World) : Prop := ∃ v v', e = .returned (.tuple #[v, v']) ∧ pH v k N w' ∧ pH v' k' N' w' ∧ Below w.heap.size w w'
theorem pH.far {w : World} {v : Value} {k N g i : Nat} {u : Value} (h : pH v k N w) (hf : ∀ A n c, v = .slice A n c → ∀ a, A = some a → a.block ≠ g) : pH v k N (w.setCell ⟨g, i, none⟩ u) := by
  obtain ⟨A, c, zs, rfl, hr, h3⟩ := h
  refine ⟨A, c, zs, rfl, ⟨?_, fun b off e j hj => ?_⟩, h3⟩
  · rcases hr.place with h | ⟨b, off, e, hb⟩
    · exact .inl h
    · exact .inr ⟨b, off, e, by simpa [World.setCell] using hb⟩
  · rw [World.cell?_setCell_other _ _ _ _ (fun e2 => hf _ _ _ rfl _ e (by have := congrArg Addr.block e2; exact this.symm))]
    exact hr.cells b off e j hj
theorem over_start {n X Y : Nat} (i : Nat) (hi : X < 2 ^ i) : OverRel 4294967296 n X Y (List.replicate n 0) i 0 :=
  ⟨by simp, dig_zeros (by omega) _, by rw [vl_zeros, Nat.div_eq_of_lt hi, Nat.zero_div, Nat.mul_zero], by rw [Nat.div_eq_of_lt hi, Nat.zero_mod]⟩
end Go.Proofs.YtjhdkdfiadlmcaaGreatDoor
namespace Go.Cal
open Go.RowKit
/-- Digits from the last one on: n of them are told, N is left. -/
structure DigR (X n N : Nat) (L : List UInt8) : Prop where
  len : L.length = n
  dig : ∀ c ∈ L, isDig c = true
  val : numV L.reverse + 10 ^ n * N = X
  top : n ≤ 1 ∨ 0 < N ∨ L.getLast? ≠ some 48
theorem DigR.start (X : Nat) : DigR X 0 X [] := ⟨rfl, fun c hc => by simp at hc, by simp [numV], .inl (by omega)⟩
theorem DigR.step {X n N : Nat} {L : List UInt8} (h : DigR X n N L) (hN : 0 < N ∨ n = 0) : DigR X (n + 1) (N / 10) (L ++ [UInt8.ofNat (48 + N % 10)]) := by
  have hm := Nat.mod_lt N (show 0 < 10 by omega)
  refine ⟨by simp [h.len], ?_, ?_, ?_⟩
  · intro c hc
    rcases List.mem_append.1 hc with hc | hc
    · exact h.dig c hc
    · rw [List.mem_singleton] at hc; subst hc; exact isDig_ofNat hm
  · have hv := h.val
    have e : (L ++ [UInt8.ofNat (48 + N % 10)]).reverse = [UInt8.ofNat (48 + N % 10)] ++ L.reverse := by simp
    rw [e, numV_append, List.length_reverse, h.len, Nat.pow_succ, Nat.mul_assoc]
    have e1 : numV [UInt8.ofNat (48 + N % 10)] = N % 10 := by
      show 0 * 10 + ((UInt8.ofNat (48 + N % 10)).toNat - 48) = _
      rw [digit_toNat hm]; omega
    rw [e1, Nat.mul_comm (N % 10), ← hv]
    have := Nat.div_add_mod N 10
    have h2 : 10 ^ n * N = 10 ^ n * (10 * (N / 10)) + 10 ^ n * (N % 10) := by rw [← Nat.mul_add, this]
    omega
  · rcases Nat.eq_zero_or_pos n with h0 | h0
    · exact .inl (by omega)
    · rcases Nat.eq_zero_or_pos (N / 10) with h1 | h1
      · refine .inr (.inr ?_)
        rw [List.getLast?_append]
        simp only [List.getLast?_singleton, Option.some_or, ne_eq, Option.some.injEq]
        intro e
        have := digit_toNat hm
        rw [e] at this
        have e48 : (48 : UInt8).toNat = 48 := rfl
        omega
      · exact .inr (.inl h1)
theorem DigR.done {X n : Nat} {L : List UInt8} (h : DigR X n 0 L) (hn : 0 < n) : Lib.decDigits X = L.reverse := by
  have hv := h.val
  rw [Nat.mul_zero, Nat.add_zero] at hv
  rw [← hv]
  refine dec_numV (fun e => by have := h.len; rw [List.reverse_eq_nil_iff.1 e] at this; simp at this; omega) (fun c hc => h.dig c (List.mem_reverse.1 hc)) (fun e => ?_)
  rw [List.head?_reverse] at e
  have hl := h.len
  rw [List.length_reverse, hl]
  rcases h.top with h1 | h1 | h1
  · omega
  · omega
  · exact absurd e h1
theorem DigR.few {X n N k : Nat} {L : List UInt8} (h : DigR X n N L) (hN : 0 < N) (hX : X < 2 ^ k) : n < k := by
  have hv := h.val
  rcases Nat.lt_or_ge n k with h1 | h1
  · exact h1
  · exfalso
    have h2 : 2 ^ k ≤ 2 ^ n := Nat.pow_le_pow_right (by omega) h1
    have h3 : 2 ^ n ≤ 10 ^ n := Nat.pow_le_pow_left (by omega) n
    have h4 : 10 ^ n * 1 ≤ 10 ^ n * N := Nat.mul_le_mul_left _ hN
    omega
/-- A row being turned round: i at each end are. -/
structure TurnR (L M : List UInt8) (i : Nat) : Prop where
  len : M.length = L.length
  at' : ∀ j, j < L.length → M.getD j 0 = if j < i ∨ L.length - i ≤ j then L.getD (L.length - 1 - j) 0 else L.getD j 0
theorem TurnR.start (L : List UInt8) : TurnR L L 0 := ⟨rfl, fun j hj => by rw [if_neg (by omega)]⟩
theorem getB_set_ne {xs : List UInt8} {k i : Nat} {x : UInt8} (h : k ≠ i) : (xs.set k x).getD i 0 = xs.getD i 0 := by
  simp [List.getD_eq_getElem?_getD, List.getElem?_set_ne h]
theorem getB_set_eq {xs : List UInt8} {k : Nat} {x : UInt8} (h : k < xs.length) : (xs.set k x).getD k 0 = x := by
  simp [List.getD_eq_getElem?_getD, h]
theorem TurnR.step {L M : List UInt8} {i : Nat} (h : TurnR L M i) (hi : 2 * i + 1 < L.length) : TurnR L ((M.set i (M.getD (L.length - 1 - i) 0)).set (L.length - 1 - i) (M.getD i 0)) (i + 1) := by
  have hl := h.len
  have g1 := h.at' i (by omega)
  have g2 := h.at' (L.length - 1 - i) (by omega)
  rw [if_neg (by omega)] at g1 g2
  refine ⟨by simp [hl], fun j hj => ?_⟩
  by_cases e1 : j = L.length - 1 - i
  · subst e1
    rw [getB_set_eq (by simp; omega), g1, if_pos (by omega)]
    congr 1; omega
  · by_cases e2 : j = i
    · subst e2
      rw [getB_set_ne (by omega), getB_set_eq (by omega), g2, if_pos (by omega)]
    · rw [getB_set_ne (by omega), getB_set_ne (by omega), h.at' j hj]
      by_cases e3 : j < i ∨ L.length - i ≤ j
      · rw [if_pos e3, if_pos (by omega)]
      · rw [if_neg e3, if_neg (by omega)]
theorem TurnR.done {L M : List UInt8} {i : Nat} (h : TurnR L M i) (hi : L.length ≤ 2 * i + 1) : M = L.reverse := by
  apply List.ext_getElem (by simp [h.len])
  intro j h1 h2
  have hl := h.len
  have g := h.at' j (by omega)
  rw [List.getElem_reverse]
  have e1 : M.getD j 0 = M[j] := by simp [List.getD_eq_getElem?_getD, h1]
  have e2 : L.getD (L.length - 1 - j) 0 = L[L.length - 1 - j]'(by omega) := by simp [List.getD_eq_getElem?_getD, show L.length - 1 - j < L.length by omega]
  rw [← e1, ← e2, g]
  by_cases e3 : j < i ∨ L.length - i ≤ j
  · rw [if_pos e3]
  · rw [if_neg e3, show L.length - 1 - j = j by omega]
/-- Bytes as cells. -/
def lB (l : List UInt8) : List Value := l.map fun x => Value.int .u8 (x.toNat : Int)
theorem lB_at (l : List UInt8) (i : Nat) (hi : i < l.length) : (lB l)[i]? = some (.int .u8 ((l.getD i 0).toNat : Int)) := by
  simp [lB, List.getD_eq_getElem?_getD, hi]
theorem lB_snoc (l : List UInt8) (x : UInt8) : lB l ++ [.int .u8 (x.toNat : Int)] = lB (l ++ [x]) := by simp [lB]
theorem lB_len (l : List UInt8) : (lB l).length = l.length := by simp [lB]
/-- Block g begins with the bytes l, none frozen. -/
def BlkB (w : World) (g : Nat) (t : TypeId) (l : List UInt8) : Prop := ∃ cs : Array Value, w.heap[g]? = some (.cells cs t (0, 0)) ∧ ∀ i, i < l.length → cs[i]? = some (.int .u8 ((l.getD i 0).toNat : Int))
section
variable {w w' : World} {g : Nat} {t : TypeId} {L : List UInt8}
theorem BlkB.lt (h : BlkB w g t L) : g < w.heap.size := by
  obtain ⟨cs, h, _⟩ := h
  exact (Array.getElem?_eq_some_iff.1 h).1
theorem BlkB.cell (h : BlkB w g t L) (i : Nat) (hi : i < L.length) : w.cell? ⟨g, i, none⟩ = some (.int .u8 ((L.getD i 0).toNat : Int)) := by
  obtain ⟨cs, h, hc⟩ := h
  rw [cell_of_row w g i _ t (0, 0) h]
  exact hc i hi
theorem BlkB.frozen (h : BlkB w g t L) (i : Nat) : w.frozen? ⟨g, i, none⟩ = false := by
  obtain ⟨cs, h, _⟩ := h
  simp [World.frozen?, h]
theorem BlkB.same (h : BlkB w g t L) (e : w'.heap[g]? = w.heap[g]?) : BlkB w' g t L := by
  obtain ⟨cs, h, hc⟩ := h
  exact ⟨cs, e.trans h, hc⟩
theorem BlkB.set (h : BlkB w g t L) (i : Nat) (x : UInt8) : BlkB (w.setCell ⟨g, i, none⟩ (.int .u8 (x.toNat : Int))) g t (L.set i x) := by
  obtain ⟨cs, h, hc⟩ := h
  refine ⟨cs.setIfInBounds i (.int .u8 (x.toNat : Int)), by simp [World.setCell, Array.getElem?_modify, h], fun j hj => ?_⟩
  rw [List.length_set] at hj
  have hcj := hc j hj
  have hjs : j < cs.size := (Array.getElem?_eq_some_iff.1 hcj).1
  rw [Array.getElem?_setIfInBounds]
  by_cases e : i = j
  · subst e
    simp [hjs, List.getD_eq_getElem?_getD, hj]
  · rw [if_neg e, hcj]
    simp [List.getD_eq_getElem?_getD, List.getElem?_set_ne e]
theorem BlkB.bytes (h : BlkB w g t L) : Lib.Bytes w g 0 ⟨L.toArray⟩ := fun i hi => by
  have hi' : i < L.length := by simpa [ByteArray.size] using hi
  rw [Nat.zero_add, h.cell i hi']
  have : L.getD i 0 = (⟨L.toArray⟩ : ByteArray)[i] := by
    show _ = L.toArray[i]
    simp [List.getD_eq_getElem?_getD, hi']
  rw [this]
theorem BlkB.of_own {base n : Nat} {v : Value} (h : w.ownsRow base t 1 v n (lB L)) (hn : n = L.length) (h0 : 0 < n) :
    ∃ g cap, v = .slice (some ⟨g, 0, none⟩) n cap ∧ base ≤ g ∧ g < w.heap.size ∧ n ≤ cap ∧ cap ≤ maxLen ∧ BlkB w g t L := by
  obtain ⟨_, ⟨rfl, h1⟩ | ⟨g, cap, cur, rfl, hg, hw, hn', hm, hs, ht⟩⟩ := h
  · omega
  · refine ⟨g, cap, rfl, hg, (Array.getElem?_eq_some_iff.1 hw).1, hn', hm, cur, hw, fun i hi => ?_⟩
    rw [← lB_at L i hi, ← ht, List.getElem?_take_of_lt (by omega), Array.getElem?_toList]
end
end Go.Cal
namespace Go.Proofs.YtjhdkdfiadlmcaaGreatDoor
open Go.RowKit Go.Cal
theorem under_bytes : Tryz.prog.underlying 43 = some (.slice 5) := by kernel_rfl
theorem under_byte : Tryz.prog.underlying 5 = some (.int .u8) := by kernel_rfl
theorem under_str : Tryz.prog.underlying 9 = some .string := by kernel_rfl
theorem info_u8 : (Tryz.prog.info? 5).map (fun i => (i.zero, i.size, i.bytes)) = some (some (.int .u8 0), 1, 1) := by kernel_rfl
theorem own_shape {w : World} {base n size : Nat} {t : TypeId} {v : Value} {xs : List Value} (h : w.ownsRow base t size v n xs) : ∃ A cap, v = .slice A n cap := by
  obtain ⟨_, ⟨rfl, rfl⟩ | ⟨g, cap, cur, rfl, _⟩⟩ := h
  · exact ⟨_, _, rfl⟩
  · exact ⟨_, _, rfl⟩
theorem nrmH_pos {zs : List Nat} {N : Nat} (h : NrmH zs N) : 0 < zs.length ↔ 0 < N := by
  constructor
  · intro h0
    have h1 := vl_pos (b := 4294967296) h.top (by intro e; subst e; simp at h0)
    rw [h.val] at h1
    have := Nat.pow_pos (n := zs.length - 1) (show 0 < 4294967296 by omega)
    omega
  · intro h0
    rcases Nat.eq_zero_or_pos zs.length with h1 | h1
    · have := h.val
      rw [List.eq_nil_of_length_eq_zero h1] at this
      simp [vl] at this; omega
    · exact h1
set_option maxRecDepth 100000 in
set_option maxHeartbeats 4000000 in
theorem digits_any {v1 : Value} {k1 X : Nat} (w : World) (h1 : IsH w v1 k1 X) (b1 : k1 ≤ 32768) :
    Calls Tryz.prog 22 #[v1] w fun e w' => e = .returned (.string ⟨(Lib.decDigits X).toArray⟩) ∧ Below w.heap.size w w' := by
  have hX : X < 2 ^ (32 * k1) := by rw [Nat.pow_mul]; exact h1.lt
  obtain ⟨i0, hi, hi0, hi1, hi2⟩ := info_parts info_u8
  have hb0 : Below w.heap.size w (w.alloc (.cells #[] 5)) := (Below.refl _ _).alloc (Nat.le_refl _) _
  have h1' : pH v1 k1 X (w.alloc (.cells #[] 5)) := h1.below hb0
  replace hX := Lib.hid hX
  clear h1
  go_enter Tryz.func22, Tryz.ntmps22
  go_wp2
  go_loopg [0, 3] (2 * X + 1) (fun k av ov wr => ∃ (n N : Nat) (L : List UInt8), k = 2 * N + (if n = 0 then 1 else 0) ∧ pH av k1 N wr ∧ wr.ownsRow w.heap.size 5 1 ov n (lB L) ∧ n ≤ 32 * k1 + 1 ∧ Below w.heap.size w wr ∧ DigR X n N L)
  case atStart => exact ⟨0, X, [], by simp, h1', World.ownsRow_lit w #[] 0 (Nat.le_refl _) (by unfold maxLen; omega) rfl, by omega, hb0, .start X⟩
  case round =>
    clear h1' hb0
    obtain ⟨n, N, L, hgk, ⟨A, c, zs, rfl, hr, hc, hm, hl, hz⟩, hown, hn, hbw, hR⟩ := hrel
    have hzw := hbw.size
    have hzp := nrmH_pos hz
    have hlen := hR.len
    obtain ⟨g1, rfl⟩ : ∃ g, g = gk := ⟨_, rfl⟩
    by_cases hend : N = 0 ∧ 0 < n
    · obtain ⟨rfl, hn0⟩ := hend
      have hz0 : zs.length = 0 := by omega
      obtain rfl := List.eq_nil_of_length_eq_zero hz0
      have hdone := hR.done hn0
      obtain ⟨g, cap, rfl, hg, hgs, hnc, hcm, hB⟩ := BlkB.of_own hown hlen.symm hn0
      have hne : ((n : Int) == 0) = false := by simp; omega
      obtain ⟨h, hh⟩ : ∃ h, n / 2 = h := ⟨_, rfl⟩
      have hhi : (n : Int) / 2 = (h : Int) := by omega
      have hn9 : n ≤ 1048577 := by omega
      replace hgk := Lib.hid hgk
      replace hlen := Lib.hid hlen
      replace hdone := Lib.hid hdone
      replace hh := Lib.hid hh
      clear hR hown hz hzp hr hz0
      go_wp2
      go_loopg [8] h (fun k iv wr => ∃ (i : Nat) (M : List UInt8), iv = .int .i64 i ∧ i + k = h ∧ BlkB wr g 5 M ∧ Below w.heap.size w wr ∧ TurnR L M i)
      case atStart => exact ⟨0, L, rfl, by omega, hB, hbw, .start L⟩
      case round =>
        clear hB hbw hgs hzw
        obtain ⟨i, M, rfl, hik, hB, hbw, hT⟩ := hrel
        have hh' := hh.out
        have hlen' := hlen.out
        have hMl := hT.len
        by_cases h0 : gk = 0
        · subst h0
          have hie : i = h := by omega
          have hMe := hT.done (by omega)
          have hsz : (⟨M.toArray⟩ : ByteArray).size = n := by show M.toArray.size = n; simp [hMl, hlen']
          have hcv := Lib.run_convert_whole (P := Tryz.prog) wr 43 5 9 under_bytes under_byte under_str g 0 ⟨M.toArray⟩ hB.bytes cap
          rw [hsz] at hcv
          have hge : ¬ (i : Int) < (h : Int) := by omega
          replace hMe := Lib.hid hMe
          replace hie := Lib.hid hie
          clear hT hsz hB hh' hlen' hMl hik
          go_wp2
          go_ret
          exact ⟨by rw [hdone.out, ← hMe.out]; rfl, hbw⟩
        · have hih : (i : Int) < (h : Int) := by omega
          obtain ⟨j, hj⟩ : ∃ j, L.length - 1 - i = j := ⟨_, rfl⟩
          have hji : (n : Int) - 1 - (i : Int) = (j : Int) := by omega
          have hst := hT.step (by omega)
          rw [hj] at hst
          have hlt : i < j := by omega
          have hjn : j < n := by omega
          have hin : (i : Int) < (n : Int) := by omega
          have hjn' : (j : Int) < (n : Int) := by omega
          obtain ⟨bi, hbi⟩ : ∃ b, M.getD i 0 = b := ⟨_, rfl⟩
          obtain ⟨bj, hbj⟩ : ∃ b, M.getD j 0 = b := ⟨_, rfl⟩
          have hci := hB.cell i (by omega)
          have hcj := hB.cell j (by omega)
          rw [hbi] at hci hst
          rw [hbj] at hcj hst
          have hfi := hB.frozen i
          have hB1 := hB.set i bj
          have hcj1 := hB1.cell j (by rw [List.length_set]; omega)
          rw [getB_set_ne (by omega), hbj] at hcj1
          have hfj := hB1.frozen j
          have hB2 := hB1.set j bi
          have hbw2 := (hbw.setCell (p := ⟨g, i, none⟩) hg (.int .u8 (bj.toNat : Int))).setCell (p := ⟨g, j, none⟩) hg (.int .u8 (bi.toNat : Int))
          replace hbi := Lib.hid hbi
          replace hbj := Lib.hid hbj
          replace hj := Lib.hid hj
          clear hT hB hB1 hh' hlen' hMl
          go_wp2
          go_roundg (gk - 1)
          case measure => omega
          case rel => exact ⟨i + 1, _, by go_num, by omega, hB2, hbw2, hst⟩
    · have hcond : 0 < zs.length ∨ (¬ 0 < zs.length ∧ n = 0) := by omega
      have hNn : 0 < N ∨ n = 0 := by omega
      have hn2 : n ≤ 32 * k1 := by
        rcases hNn with h | h
        · exact Nat.le_of_lt (hR.few h hX.out)
        · omega
      have hst := hR.step hNn
      have hmk := run_makeU (P := Tryz.prog) 22 36 under_u64s info_u64 zs.length (by omega)
      have hQk : N / 10 < 4294967296 ^ k1 := by
        have h1 := hz.lt
        have h2 : 4294967296 ^ zs.length ≤ 4294967296 ^ k1 := Nat.pow_le_pow_right (by omega) hl
        have h3 := Nat.div_le_self N 10
        omega
      have hdec : 2 * (N / 10) < g1 := by rw [hgk]; split <;> omega
      replace hgk := Lib.hid hgk
      replace hlen := Lib.hid hlen
      replace hQk := Lib.hid hQk
      replace hdec := Lib.hid hdec
      clear hR hend hzp hNn
      obtain ⟨wo, rfl⟩ : ∃ w0, w0 = wr := ⟨_, rfl⟩
      rcases hcond with hcd | ⟨hcd, rfl⟩
      · go_wp2
        clear hmk
        go_loopg [4, 6] zs.length (fun k lv iv wi => ∃ (left : Nat) (Q : List Nat), iv = .int .i64 k ∧ lv = .int .u64 left ∧ k ≤ zs.length ∧ BlkU wi wo.heap.size 36 Q ∧ Below wo.heap.size wo wi ∧ ShortRel 4294967296 zs Q 10 k left)
        case atStart => exact ⟨0, _, rfl, rfl, Nat.le_refl _, BlkU.made wo 36 _, (Below.refl _ _).alloc (Nat.le_refl _) _, .start (by omega) zs (by omega)⟩
        case round =>
          obtain ⟨left, Q, rfl, rfl, hgz, hB, hbi, hS⟩ := hrel
          have hzi := hbi.size
          have hleft := hS.rest
          have hQl := hS.len
          by_cases h0 : gk = 0
          · subst h0
            have hv := hS.val
            rw [List.drop_zero, List.drop_zero, hz.val] at hv
            have hNl : N % 10 = left := by omega
            have hNq : vl 4294967296 Q = N / 10 := by omega
            rw [hNl] at hst
            obtain ⟨T, hT⟩ : ∃ T, 48 + left = T := ⟨_, rfl⟩
            rw [hT] at hst
            have hTi : (48 : Int) + (left : Int) = (T : Int) := by omega
            have hTb : T < 58 := by omega
            have hTc : (T : Int) = ((UInt8.ofNat T).toNat : Int) := by rw [UInt8.toNat_ofNat']; omega
            have hown2 := own_below hown hbi
            have hbwi := hbw.trans (hbi.mono hzw)
            have hfar : ∀ j, u3.ownBlock = some j → j < wo.heap.size := fun j hj => (hown.lt j hj).2
            replace hTc := Lib.hid hTc
            replace hT := Lib.hid hT
            replace hNl := Lib.hid hNl
            have hQd := hS.dig
            clear hS hv hown
            go_wp2_with (at_builtin; refine wpList_append_own _ rfl _ _ 43 rfl w.heap.size 5 i0 (.int .u8 0) 1 1 under_bytes hi hi0 hi1 hi2 rfl (by decide) u3 n (lB L) rfl (hown2.alloc _) ⟨wr.heap.size, 0, none⟩ 1 1 [.int .u8 T] rfl rfl (one_cell wr 5 _) (fun u hu => by simp at hu; subst hu; rfl) (by unfold maxLen; omega) (by omega) (by simp; omega) ?_)
            intro v' w1 hown' hgr _
            rw [hTc.out, lB_snoc] at hown'
            have hb2 := (hbwi.alloc (Nat.le_trans hzw hzi) (.cells #[.int .u8 (T : Int)] 5)).grown hgr (by simp; omega) (fun j hj => (hown2.lt j hj).1)
            have hlt := hB.lt
            have hB2 : BlkU w1 wo.heap.size 36 Q := (hB.alloc (.cells #[.int .u8 (T : Int)] 5)).same (hgr.block _ (by simp; omega) (fun e => by have := hfar _ e.symm; omega))
            have htr := trim_blk_same (k := k1) hB2 hQl (by omega) hQd hNq hQk.out
            replace htr := Lib.hid htr
            clear hown2 hgr hB hB2 hNq hQd
            go_wp2_with fail
            refine htr.out.mono ?_
            rintro e w2 ⟨u, rfl, hu, rfl⟩
            go_wp2
            go_roundg (2 * (N / 10))
            case measure => exact hdec.out
            case rel => exact ⟨n + 1, _, _, by simp, hu, hown', by omega, hb2, hst⟩
          · obtain ⟨m, rfl⟩ : ∃ m, gk = m + 1 := ⟨gk - 1, by omega⟩
            have hmm : m < zs.length := by omega
            have hmi : (m : Int) < (zs.length : Int) := by omega
            obtain ⟨b, off, rfl, hb, hcx⟩ := (hr.below hbi).at hmm
            have hx0 := hcx m hmm
            clear hcx
            obtain ⟨x, hxx⟩ : ∃ x, zs.getD m 0 = x := ⟨_, rfl⟩
            have hx1 : x < 4294967296 := hxx ▸ dig_getD (by omega) hz.dig m
            rw [hxx] at hx0
            obtain ⟨S, hSS⟩ : ∃ S, left * 4294967296 + x = S := ⟨_, rfl⟩
            have hSi : (left : Int) * 4294967296 + (x : Int) = (S : Int) := by omega
            have hSb : S < 42949672960 := by omega
            have hst2 := hS.step (q := S / 10) (r := S % 10) hmm hxx (by omega) (Nat.mod_lt _ (by omega)) (by rw [hSS]; omega)
            obtain ⟨q, hq⟩ : ∃ q, S / 10 = q := ⟨_, rfl⟩
            obtain ⟨r, hr2⟩ : ∃ q, S % 10 = q := ⟨_, rfl⟩
            rw [hq, hr2] at hst2
            have hqi : (S : Int) / 10 = (q : Int) := by omega
            have hri : (S : Int) % 10 = (r : Int) := by omega
            have hcell := hB.cell m (by rw [hQl]; exact hmm)
            have hfr := hB.frozen m
            have hset := hB.set m q
            generalize Q.getD m 0 = o at *
            replace hSS := Lib.hid hSS
            replace hq := Lib.hid hq
            replace hr2 := Lib.hid hr2
            replace hxx := Lib.hid hxx
            clear hS hB
            go_wp2
            go_roundg m
            case measure => omega
            case rel => exact ⟨r, _, by go_num, by rw [hri], by omega, hset, hbi.setCell (Nat.le_refl _) _, hst2⟩
      · obtain ⟨Ao, co, rfl⟩ := own_shape hown
        go_wp2
        generalize Value.slice Ao 0 co = u3 at *
        clear hmk
        go_loopg [4, 6] zs.length (fun k lv iv wi => ∃ (left : Nat) (Q : List Nat), iv = .int .i64 k ∧ lv = .int .u64 left ∧ k ≤ zs.length ∧ BlkU wi wo.heap.size 36 Q ∧ Below wo.heap.size wo wi ∧ ShortRel 4294967296 zs Q 10 k left)
        case atStart => exact ⟨0, _, rfl, rfl, Nat.le_refl _, BlkU.made wo 36 _, (Below.refl _ _).alloc (Nat.le_refl _) _, .start (by omega) zs (by omega)⟩
        case round =>
          obtain ⟨left, Q, rfl, rfl, hgz, hB, hbi, hS⟩ := hrel
          have hzi := hbi.size
          have hleft := hS.rest
          have hQl := hS.len
          by_cases h0 : gk = 0
          · subst h0
            have hv := hS.val
            rw [List.drop_zero, List.drop_zero, hz.val] at hv
            have hNl : N % 10 = left := by omega
            have hNq : vl 4294967296 Q = N / 10 := by omega
            rw [hNl] at hst
            obtain ⟨T, hT⟩ : ∃ T, 48 + left = T := ⟨_, rfl⟩
            rw [hT] at hst
            have hTi : (48 : Int) + (left : Int) = (T : Int) := by omega
            have hTb : T < 58 := by omega
            have hTc : (T : Int) = ((UInt8.ofNat T).toNat : Int) := by rw [UInt8.toNat_ofNat']; omega
            have hown2 := own_below hown hbi
            have hbwi := hbw.trans (hbi.mono hzw)
            have hfar : ∀ j, u3.ownBlock = some j → j < wo.heap.size := fun j hj => (hown.lt j hj).2
            replace hTc := Lib.hid hTc
            replace hT := Lib.hid hT
            replace hNl := Lib.hid hNl
            have hQd := hS.dig
            clear hS hv hown
            go_wp2_with (at_builtin; refine wpList_append_own _ rfl _ _ 43 rfl w.heap.size 5 i0 (.int .u8 0) 1 1 under_bytes hi hi0 hi1 hi2 rfl (by decide) u3 0 (lB L) rfl (hown2.alloc _) ⟨wr.heap.size, 0, none⟩ 1 1 [.int .u8 T] rfl rfl (one_cell wr 5 _) (fun u hu => by simp at hu; subst hu; rfl) (by unfold maxLen; omega) (by omega) (by simp; omega) ?_)
            intro v' w1 hown' hgr _
            rw [hTc.out, lB_snoc] at hown'
            have hb2 := (hbwi.alloc (Nat.le_trans hzw hzi) (.cells #[.int .u8 (T : Int)] 5)).grown hgr (by simp; omega) (fun j hj => (hown2.lt j hj).1)
            have hlt := hB.lt
            have hB2 : BlkU w1 wo.heap.size 36 Q := (hB.alloc (.cells #[.int .u8 (T : Int)] 5)).same (hgr.block _ (by simp; omega) (fun e => by have := hfar _ e.symm; omega))
            have htr := trim_blk_same (k := k1) hB2 hQl (by omega) hQd hNq hQk.out
            replace htr := Lib.hid htr
            clear hown2 hgr hB hB2 hNq hQd
            go_wp2_with fail
            refine htr.out.mono ?_
            rintro e w2 ⟨u, rfl, hu, rfl⟩
            go_wp2
            go_roundg (2 * (N / 10))
            case measure => exact hdec.out
            case rel => exact ⟨0 + 1, _, _, by simp, hu, hown', by omega, hb2, hst⟩
          · exfalso; omega
end Go.Proofs.YtjhdkdfiadlmcaaGreatDoor
namespace Go.Proofs.YtjhdkdfiadlmcaaGreatDoor
open Go.RowKit Go.Cal
theorem lcat_l (a b : List UInt8) (B : ByteArray) (hB : B = strL b) (k : Nat) (hk : a.length + b.length ≤ k) : ∃ t, strL a ++ B = strL t ∧ Hid (t = a ++ b) ∧ (strL t).size = t.length ∧ t.length ≤ k :=
  ⟨a ++ b, by rw [hB, strL_app], Lib.hid rfl, strL_size _, by rw [List.length_append]; exact hk⟩
/-- The document's text of a number, by its half words. -/
theorem rtext_t {w : World} {v : Value} {m N : Nat} (h : IsN w v m N) (hm : m ≤ 16384) : ∀ W, Below w.heap.size w W → Calls Tryz.prog 23 #[v] W fun e w1 => ∃ u, e = .returned u ∧ Below W.heap.size W w1 ∧ (∀ W', Below w1.heap.size w1 W' → Calls Tryz.prog 22 #[u] W' fun e w2 => e = .returned (.string (strL (Lib.decDigits N))) ∧ Below W'.heap.size W' w2) := fun W hb => by
  refine (halves_any W (h.below hb) (by omega)).mono ?_
  rintro e w1 ⟨u, rfl, hu, hb1, _⟩
  exact ⟨u, rfl, hb1, fun W' hb' => digits_any W' (IsH.below hu hb') (by omega)⟩
set_option maxRecDepth 100000 in
set_option maxHeartbeats 1000000 in
theorem rright_t {w : World} {v : Value} {N : Nat} (neg : Bool) (k : Int) (h : IsT w v 128 N) :
    Calls Tryz.prog 11 #[.agg #[.bool neg, v, .int .i64 k]] w fun e w' => e = .returned (.bool (decide (DRight N k))) ∧ Below w.heap.size w w' := by
  have hN := h.isN
  obtain ⟨A, c, zs, rfl, rd, hc, hcm, hl, nr⟩ := h
  have hb0 := (Below.refl w.heap.size w).alloc (Nat.le_refl _) (.cells #[.bool neg, .slice A zs.length c, .int .i64 k] 25)
  by_cases h0 : zs = []
  · subst h0
    obtain rfl : N = 0 := by rw [← nr.val]; rfl
    by_cases hk : k = 0
    · subst hk
      have hd : decide (DRight 0 0) = true := by decide
      rw [hd]
      go_enter Tryz.func11, Tryz.ntmps11
      go_wp2
      go_ret
      exact ⟨rfl, hb0⟩
    · have hd : decide (DRight 0 k) = false := by
        refine decide_eq_false ?_
        rintro (⟨_, h⟩ | ⟨h, _⟩)
        · exact hk h
        · omega
      rw [hd]
      have hk' : (k == 0) = false := by simpa using hk
      go_enter Tryz.func11, Tryz.ntmps11
      go_wp2
      go_ret
      exact ⟨rfl, hb0⟩
  · have hpos := List.length_pos_iff.2 h0
    obtain ⟨b, off, rfl, hbB, hcell⟩ := rd.at (i := 0) hpos
    obtain ⟨n, hn⟩ : ∃ n, zs.length = n := ⟨_, rfl⟩
    have hlast := nr.top h0
    have hx := hcell (n - 1) (by omega)
    have hxv : zs.getD (n - 1) 0 = zs.getLast h0 := by
      rw [List.getLast_eq_getElem, List.getD_eq_getElem?_getD, List.getElem?_eq_getElem (by omega)]
      simp [hn]
    rw [hxv] at hx
    obtain ⟨x, hxx⟩ : ∃ x, zs.getLast h0 = x := ⟨_, rfl⟩
    rw [hxx] at hx hlast
    have hN0 : 0 < N := by
      have := vl_pos (b := 18446744073709551616) nr.top h0
      rw [nr.val] at this
      exact Nat.lt_of_lt_of_le (Nat.pow_pos (by decide)) this
    rw [hn] at hN hc hl hb0 ⊢
    have hx' : (w.alloc (.cells #[.bool neg, .slice (some ⟨b, off, none⟩) n c, .int .i64 k] 25)).cell? ⟨b, off + (n - 1), none⟩ = some (.int .u64 (x : Nat)) := by
      rw [World.cell?_alloc_lt _ _ _ hbB]; exact hx
    have hN' := hN.below hb0
    have hx0 : ((x : Int) == 0) = false := by simpa using hlast
    clear hcell hxv hxx nr rd
    by_cases hk1 : k < -5000
    · have hd : decide (DRight N k) = false := decide_eq_false (by unfold DRight; omega)
      rw [hd]
      go_enter Tryz.func11, Tryz.ntmps11
      go_wp2
      go_ret
      exact ⟨rfl, hb0⟩
    · by_cases hk2 : 5000 < k
      · have hd : decide (DRight N k) = false := decide_eq_false (by unfold DRight; omega)
        rw [hd]
        go_enter Tryz.func11, Tryz.ntmps11
        go_wp2
        go_ret
        exact ⟨rfl, hb0⟩
      · have hi := dright_iff hN0 (k := k) ⟨by omega, by omega⟩
        have htx := rtext_t hN' (by decide) _ (Below.refl _ _)
        obtain ⟨S, hS⟩ : ∃ S, strL (Lib.decDigits N) = S := ⟨_, rfl⟩
        obtain ⟨z, hz⟩ : ∃ z, (Lib.decDigits N).length = z := ⟨_, rfl⟩
        have hsz : S.size = z := by rw [← hS, strL_size, hz]
        have hz0 : 0 < z := by rw [← hz]; exact List.length_pos_iff.2 (dec_ne N)
        have hge : ∀ h : z - 1 < S.size, S[z - 1] = UInt8.ofNat (48 + N % 10) := fun h => by
          subst hS
          rw [strL_get, ← hz]
          exact dec_end
        rw [hS] at htx
        rw [hz] at hi
        replace htx := Lib.hid htx
        replace hS := Lib.hid hS
        replace hz := Lib.hid hz
        by_cases hl2 : z ≤ 2000
        · by_cases h10 : N % 10 = 0
          · have hd : decide (DRight N k) = false := decide_eq_false fun h => (hi.1 h).2 h10
            rw [hd]
            rw [h10] at hge
            go_enter Tryz.func11, Tryz.ntmps11
            go_wp2_with fail
            refine htx.out.mono ?_
            rintro e w0 ⟨u, rfl, hb1, hdg⟩
            replace hdg := Lib.hid (hdg _ (Below.refl _ _))
            replace hb1 := chain hb0 hb1
            go_wp2_with fail
            refine hdg.out.mono ?_
            rintro e w1 ⟨rfl, hb2⟩
            replace hb1 := chain hb1 hb2
            go_wp2
            go_ret
            exact ⟨rfl, hb1⟩
          · have hd : decide (DRight N k) = true := decide_eq_true (hi.2 ⟨hl2, h10⟩)
            rw [hd]
            have hne : ((48 + (N : Int) % 10) % 256 != 48) = true := by
              rw [bne_iff_ne]
              omega
            go_enter Tryz.func11, Tryz.ntmps11
            go_wp2_with fail
            refine htx.out.mono ?_
            rintro e w0 ⟨u, rfl, hb1, hdg⟩
            replace hdg := Lib.hid (hdg _ (Below.refl _ _))
            replace hb1 := chain hb0 hb1
            go_wp2_with fail
            refine hdg.out.mono ?_
            rintro e w1 ⟨rfl, hb2⟩
            replace hb1 := chain hb1 hb2
            go_wp2
            go_ret
            exact ⟨rfl, hb1⟩
        · have hd : decide (DRight N k) = false := decide_eq_false fun h => hl2 (hi.1 h).1
          rw [hd]
          go_enter Tryz.func11, Tryz.ntmps11
          go_wp2_with fail
          refine htx.out.mono ?_
          rintro e w0 ⟨u, rfl, hb1, hdg⟩
          replace hdg := Lib.hid (hdg _ (Below.refl _ _))
          replace hb1 := chain hb0 hb1
          go_wp2_with fail
          refine hdg.out.mono ?_
          rintro e w1 ⟨rfl, hb2⟩
          replace hb1 := chain hb1 hb2
          go_wp2
          go_ret
          exact ⟨rfl, hb1⟩
set_option maxRecDepth 100000 in
set_option maxHeartbeats 1000000 in
theorem rright_long {w : World} {A : Option Addr} {n c : Nat} (neg : Bool) (k : Int) (hn : 128 < n) :
    Calls Tryz.prog 11 #[.agg #[.bool neg, .slice A n c, .int .i64 k]] w fun e w' => e = .returned (.bool false) ∧ Below w.heap.size w w' := by
  have hb0 := (Below.refl w.heap.size w).alloc (Nat.le_refl _) (.cells #[.bool neg, .slice A n c, .int .i64 k] 25)
  have hn1 : (128 : Int) < n := by omega
  have hn2 : ((n : Int) == 0) = false := by simp; omega
  go_enter Tryz.func11, Tryz.ntmps11
  go_wp2
  go_ret
  exact ⟨rfl, hb0⟩
set_option maxRecDepth 100000 in
set_option maxHeartbeats 1000000 in
theorem rright_low {w : World} {b off n c : Nat} (neg : Bool) (k : Int) (hn : 0 < n ∧ n ≤ 128) (hbB : b < w.heap.size) (hx : w.cell? ⟨b, off + (n - 1), none⟩ = some (.int .u64 0)) :
    Calls Tryz.prog 11 #[.agg #[.bool neg, .slice (some ⟨b, off, none⟩) n c, .int .i64 k]] w fun e w' => e = .returned (.bool false) ∧ Below w.heap.size w w' := by
  have hb0 := (Below.refl w.heap.size w).alloc (Nat.le_refl _) (.cells #[.bool neg, .slice (some ⟨b, off, none⟩) n c, .int .i64 k] 25)
  have hx' : (w.alloc (.cells #[.bool neg, .slice (some ⟨b, off, none⟩) n c, .int .i64 k] 25)).cell? ⟨b, off + (n - 1), none⟩ = some (.int .u64 0) := by
    rw [World.cell?_alloc_lt _ _ _ hbB]; exact hx
  obtain ⟨hn0, hn3⟩ := hn
  have hn2 : ((n : Int) == 0) = false := by simp; omega
  go_enter Tryz.func11, Tryz.ntmps11
  go_wp2
  go_ret
  exact ⟨rfl, hb0⟩
/-- The document's number. -/
theorem conv_one (x : UInt8) (w : World) : (convert 43 9 (.slice (some ⟨w.heap.size, 0, none⟩) 1 1)).run Tryz.prog (w.alloc (.cells #[.int .u8 (x.toNat : Int)] 5)) = .ok (.string (strL [x])) (w.alloc (.cells #[.int .u8 (x.toNat : Int)] 5)) :=
  conv_bytes (l := [x]) 1 (rd_lit w [x] #[.int .u8 (x.toNat : Int)] rfl (0, 0))
set_option maxRecDepth 100000 in
set_option maxHeartbeats 1000000 in
theorem rnum_nat : ∀ (n : Nat) (_ : n ≤ 100000) (w : World), Calls Tryz.prog 27 #[.int .i64 n] w fun e w' => e = .returned (.string (strL (Lib.decDigits n))) ∧ Below w.heap.size w w' := by
  intro n
  induction n using Nat.strongRecOn with
  | ind n ih =>
    intro hn w
    have hn0 : ¬ (n : Int) < 0 := by omega
    obtain ⟨x, hx⟩ : ∃ x : UInt8, UInt8.ofNat (48 + n % 10) = x := ⟨_, rfl⟩
    have hxv : ((x.toNat : Nat) : Int) = 48 + (n : Int) % 10 := by
      rw [← hx, UInt8.toNat_ofNat']
      omega
    have hcv := fun w => conv_one x w
    rw [hxv] at hcv
    by_cases h10 : n < 10
    · have hd : Lib.decDigits n = [x] := by rw [dec_small h10, ← hx, Nat.mod_eq_of_lt h10]
      have h10' : (n : Int) < 10 := by omega
      rw [hd]
      clear ih hd hx hxv
      go_enter Tryz.func27, Tryz.ntmps27
      go_wp2
      go_ret
      exact ⟨rfl, (Below.refl _ _).alloc (Nat.le_refl _) _⟩
    · have hd : Lib.decDigits n = Lib.decDigits (n / 10) ++ [x] := by rw [Go.Cal.dec_big h10, ← hx]
      have h10' : ¬ (n : Int) < 10 := by omega
      have hq := fun w => ih (n / 10) (by omega) (by omega) w
      obtain ⟨q, hqe⟩ : ∃ q, n / 10 = q := ⟨_, rfl⟩
      have hq1 : (n : Int) / 10 = (q : Int) := by omega
      have hq2 : (n : Int).tdiv 10 = (q : Int) := by rw [Int.tdiv_eq_ediv_of_nonneg (by omega)]; exact hq1
      rw [hqe] at hq hd
      have hl : (Lib.decDigits q).length ≤ 20 := (padd_dec 20 q (by decide) (by omega)).2
      obtain ⟨S, hS⟩ : ∃ S, Lib.decDigits q = S := ⟨_, rfl⟩
      rw [hS] at hq hd hl
      have hcat : strL S ++ strL [x] = strL (S ++ [x]) := strL_app S [x]
      have hs1 := strL_size S
      have hs2 : (strL [x]).size = 1 := strL_size [x]
      rw [hd]
      replace hq := Lib.hid hq
      clear ih hd hx hxv hqe hS
      go_enter Tryz.func27, Tryz.ntmps27
      go_wp2_with fail
      refine (hq.out _).mono ?_
      rintro e w1 ⟨rfl, hb⟩
      go_wp2
      go_ret
      exact ⟨rfl, chain ((Below.refl _ _).alloc (Nat.le_refl _) _) hb⟩
set_option maxRecDepth 100000 in
set_option maxHeartbeats 1000000 in
theorem rnum_any (n : Int) (hn : -100000 ≤ n ∧ n ≤ 100000) (w : World) : Calls Tryz.prog 27 #[.int .i64 n] w fun e w' => e = .returned (.string (strL (numT n))) ∧ Below w.heap.size w w' := by
  by_cases h0 : n < 0
  · obtain ⟨m, hm⟩ : ∃ m : Nat, -n = m := ⟨(-n).toNat, by omega⟩
    have hq := rnum_nat m (by omega) w
    have hd : numT n = 45 :: Lib.decDigits m := by unfold numT; rw [if_pos h0, show n.natAbs = m by omega]
    obtain ⟨S, hS⟩ : ∃ S, Lib.decDigits m = S := ⟨_, rfl⟩
    have hl : (Lib.decDigits m).length ≤ 20 := (padd_dec 20 m (by decide) (by omega)).2
    rw [hS] at hq hd hl
    rw [hd]
    have hcat : (⟨#[45]⟩ : ByteArray) ++ strL S = strL (45 :: S) := strL_app [45] S
    have hs1 := strL_size S
    obtain ⟨hn1, hn2⟩ := hn
    replace hq := Lib.hid hq
    clear hd hS
    go_enter Tryz.func27, Tryz.ntmps27
    go_wp2_with fail
    refine hq.out.mono ?_
    rintro e w1 ⟨rfl, hb⟩
    go_wp2
    go_ret
    exact ⟨rfl, hb⟩
  · obtain ⟨m, rfl⟩ := Int.eq_ofNat_of_zero_le (show 0 ≤ n by omega)
    have hd : numT (m : Int) = Lib.decDigits m := by unfold numT; rw [if_neg h0]; rfl
    rw [hd]
    exact rnum_nat m (by omega) w
end Go.Proofs.YtjhdkdfiadlmcaaGreatDoor
namespace Go.Proofs.YtjhdkdfiadlmcaaGreatDoor
open Go.RowKit Go.Cal
/-- What is written of a number with its point inside or behind, after i places. -/
def lyG (S : List UInt8) (p i : Nat) : List UInt8 := if i ≤ p then S.take i ++ List.replicate (i - S.length) 48 else S.take p ++ 46 :: (S.drop p).take (i - p)
theorem lyG_len (S : List UInt8) (p i : Nat) : (lyG S p i).length ≤ S.length + i + 1 := by
  unfold lyG
  split
  · rw [List.length_append, List.length_take, List.length_replicate]; omega
  · rw [List.length_append, List.length_cons, List.length_take, List.length_take, List.length_drop]; omega
theorem lyG_dig {S : List UInt8} {p i : Nat} (h : i < S.length) : lyG S p (i + 1) = lyG S p i ++ (if i = p then [46] else []) ++ [S.getD i 0] := by
  have ht : S.take (i + 1) = S.take i ++ [S.getD i 0] := by
    rw [List.take_add_one, List.getElem?_eq_getElem h, List.getD_eq_getElem?_getD, List.getElem?_eq_getElem h]
    rfl
  unfold lyG
  by_cases h1 : i + 1 ≤ p
  · rw [if_pos h1, if_pos (by omega), if_neg (by omega), ht, show i + 1 - S.length = 0 by omega, show i - S.length = 0 by omega]
    simp
  · rw [if_neg h1]
    by_cases h2 : i = p
    · subst h2
      rw [if_pos (Nat.le_refl _), if_pos rfl, show i - S.length = 0 by omega, show i + 1 - i = 1 by omega]
      have : (S.drop i).take 1 = [S.getD i 0] := by
        rw [List.drop_eq_getElem_cons h, List.take_succ_cons, List.take_zero, List.getD_eq_getElem?_getD, List.getElem?_eq_getElem h]
        rfl
      rw [this]
      simp
    · rw [if_neg (by omega), if_neg h2]
      have : (S.drop p).take (i + 1 - p) = (S.drop p).take (i - p) ++ [S.getD i 0] := by
        rw [show i + 1 - p = (i - p) + 1 by omega, List.take_add_one, List.getElem?_drop, show p + (i - p) = i by omega, List.getElem?_eq_getElem h, List.getD_eq_getElem?_getD, List.getElem?_eq_getElem h]
        rfl
      rw [this]
      simp
theorem lyG_zero {S : List UInt8} {p i : Nat} (h : S.length ≤ i) (hp : i < p) : lyG S p (i + 1) = lyG S p i ++ [48] := by
  unfold lyG
  rw [if_pos (by omega), if_pos (by omega), List.take_of_length_le h, List.take_of_length_le (by omega), show i + 1 - S.length = (i - S.length) + 1 by omega, List.replicate_succ']
  simp
theorem lyG_start (S : List UInt8) (p : Nat) : lyG S p 0 = [] := by unfold lyG; simp
theorem lyG_end {S : List UInt8} {k : Int} {p : Nat} (hp : (S.length : Int) + k = p) (h1 : 1 ≤ p) (h2 : p ≤ 21) : lyG S p (max S.length p) = lyB S k := by
  unfold lyG lyB
  by_cases hk : 0 ≤ k
  · rw [if_pos (by omega), if_pos ⟨hk, by omega⟩, List.take_of_length_le (by omega), show max S.length p - S.length = k.toNat by omega]
  · rw [if_neg (by omega), if_neg (by omega), if_pos ⟨by omega, by omega⟩, hp, Int.toNat_natCast, List.take_of_length_le (l := S.drop p) (by rw [List.length_drop]; omega)]
theorem isT_posU {w : World} {A : Option Addr} {n c m N : Nat} (h : IsT w (.slice A n c) m N) (h0 : 0 < N) : 0 < n := by
  obtain ⟨A', c', zs, e, _, _, _, _, nr⟩ := h
  injection e with e1 e2 e3
  subst e2
  refine List.length_pos_iff.2 fun e => ?_
  subst e
  have := nr.val
  simp [vl] at this
  omega
theorem rcat (a b : List UInt8) (B C : ByteArray) (hB : B = strL a) (hC : C = strL b) (k : Nat) (hk : a.length + b.length ≤ k) : ∃ t, B ++ C = strL t ∧ Hid (t = a ++ b) ∧ (strL t).size = t.length ∧ t.length ≤ k :=
  ⟨a ++ b, by rw [hB, hC, strL_app], Lib.hid rfl, strL_size _, by rw [List.length_append]; exact hk⟩
theorem slice_one (S : List UInt8) (i : Nat) (hi : i < S.length) (w : World) : (Instr.slice 9 (.string (strL S)) (some (.int .i64 i)) (some (.int .i64 (i + 1))) none).run Tryz.prog w = .ok (.string (strL [S.getD i 0])) w := by
  rw [run_slice_string _ _ _ .i64 .i64 i (i + 1) sunder_str (by omega) (by omega) (by rw [strL_size]; omega), strL_extract]
  have e : (S.drop (i : Int).toNat).take (((i : Int) + 1).toNat - (i : Int).toNat) = [S.getD i 0] := by
    rw [Int.toNat_natCast, show ((i : Int) + 1).toNat - i = 1 by omega, List.drop_eq_getElem_cons hi, List.take_succ_cons, List.take_zero, List.getD_eq_getElem?_getD, List.getElem?_eq_getElem hi]
    rfl
  rw [e]
set_option maxRecDepth 100000 in
set_option maxHeartbeats 2000000 in
theorem rfar1_p {w : World} {v : Value} {N : Nat} (k : Int) (h : IsT w v 128 N) (hd : DRight N k) (h0 : 0 < N) (hc : (21 < ((Lib.decDigits N).length : Int) + k ∨ ((Lib.decDigits N).length : Int) + k < -5) ∧ (Lib.decDigits N).length = 1) :
    Calls Tryz.prog 13 #[.agg #[.bool false, v, .int .i64 k]] w fun e w' => e = .returned (.string (strL (lyT false N k))) ∧ Below w.heap.size w w' := by
  have hb0 := (Below.refl w.heap.size w).alloc (Nat.le_refl _) (.cells #[.bool false, v, .int .i64 k] 25)
  have hr := rright_t false k (h.below hb0)
  rw [decide_eq_true hd] at hr
  obtain ⟨A, c, zs, rfl, -⟩ := id h
  obtain ⟨n, hn⟩ : ∃ n, zs.length = n := ⟨_, rfl⟩
  rw [hn] at hr h hb0 ⊢
  clear hn
  have hzn := isT_posU h h0
  have hL := ((LiveP.start w).put (pT_st _ _ _) h |>.go hb0).put (pBlk_st _ _ _) (pBlk_made w #[.bool false, .slice A n c, .int .i64 k] 25)
  have hnb : ((n : Int) == 0) = false := by rw [beq_eq_false_iff_ne]; omega
  obtain ⟨S, hS⟩ : ∃ S, Lib.decDigits N = S := ⟨_, rfl⟩
  rw [hS] at hc
  obtain ⟨z, hz⟩ : ∃ z, S.length = z := ⟨_, rfl⟩
  rw [hz] at hc
  have hz0 : 0 < z := by rw [← hz, ← hS]; exact List.length_pos_iff.2 (dec_ne N)
  have hzz : z ≤ 2000 := by
    rcases hd with ⟨h1, _⟩ | ⟨_, _, h1, _⟩
    · omega
    · rw [hS, hz] at h1; exact h1
  have hk5 : -5000 ≤ k ∧ k ≤ 5000 := by
    rcases hd with ⟨h1, _⟩ | ⟨_, _, _, h1, h2⟩
    · omega
    · exact ⟨h1, h2⟩
  obtain ⟨hk5, hk6⟩ := hk5
  have hsz : (strL S).size = z := by rw [strL_size, hz]
  have htx := rtext_t (IsT.isN h) (by decide)
  rw [hS] at htx
  replace htx := Lib.hid htx
  replace hr := Lib.hid hr
  have hT0 : lyT false N k = [] ++ lyB S k := by rw [lyT, lyS_pos h0, hS]; rfl
  replace hS := Lib.hid hS
  replace hz := Lib.hid hz
  replace hd := Lib.hid hd
  clear h hzn
  obtain ⟨hcf, hc1⟩ := hc
  have hsl : ∀ w, (Instr.slice 9 (.string (strL S)) none (some (.int .i64 1)) none).run Tryz.prog w = .ok (.string (strL (S.take 1))) w := fun w => slice_to S 1 (by have := hz.out; omega) w
  obtain ⟨s1, hs1⟩ : ∃ x, S.take 1 = x := ⟨_, rfl⟩
  rw [hs1] at hsl
  have hs1l : s1.length ≤ 1 := by rw [← hs1, List.length_take]; omega
  have hzs := strL_size s1
  obtain ⟨o1, e1, i1, z1, y1⟩ := rcat [] s1 ⟨#[]⟩ (strL s1) rfl rfl 3 (by simp; omega)
  obtain ⟨o2, e2, i2, z2, y2⟩ := lcat_l o1 [101] ⟨#[101]⟩ rfl 4 (by simp; omega)
  have hul := numT_len ((z : Int) + k - 1) (by omega)
  have hnm := fun w => rnum_any ((z : Int) + k - 1) ⟨by omega, by omega⟩ w
  obtain ⟨u, hu⟩ : ∃ u, numT ((z : Int) + k - 1) = u := ⟨_, rfl⟩
  rw [hu] at hul hnm
  have hzu := strL_size u
  obtain ⟨o3, e3, i3, z3, y3⟩ := lcat_l o2 u (strL u) rfl 30 (by omega)
  have hB : lyB S k = S ++ 101 :: numT ((z : Int) + k - 1) := by
    unfold lyB
    rw [hz.out, if_neg (by omega), if_neg (by omega), if_neg (by omega), if_pos (by omega)]
  have hfin : lyT false N k = o3 := by
    have hS1 : s1 = S := by rw [← hs1, List.take_of_length_le (by have := hz.out; omega)]
    rw [hT0, hB, hu, i3.out, i2.out, i1.out, hS1]
    simp
  rw [hfin]
  replace hnm := Lib.hid hnm
  have hz1 : ¬ (1 : Int) < z := by omega
  replace hc1 := Lib.hid hc1
  clear hfin hB hT0 hu hs1
  rcases hcf with hcf | hcf
  all_goals
    go_enter Tryz.func13, Tryz.ntmps13
    go_wp2_with fail
    refine hr.out.mono ?_
    rintro e w1 ⟨rfl, hb⟩
    have hbw := chain hb0 hb
    replace hL := hL.go hb
    clear hb hr
    have q0 := (hL.get (P := pBlk w.heap.size #[.bool false, .slice A n c, .int .i64 k] 25) (by repeat (first | exact List.mem_cons_self | apply List.mem_cons_of_mem))).cell 0 _ rfl
    have q1 := (hL.get (P := pBlk w.heap.size #[.bool false, .slice A n c, .int .i64 k] 25) (by repeat (first | exact List.mem_cons_self | apply List.mem_cons_of_mem))).cell 1 _ rfl
    have q2 := (hL.get (P := pBlk w.heap.size #[.bool false, .slice A n c, .int .i64 k] 25) (by repeat (first | exact List.mem_cons_self | apply List.mem_cons_of_mem))).cell 2 _ rfl
    go_wp2_with fail
    refine (htx.out _ hbw).mono ?_
    rintro e w2 ⟨u, rfl, hb, hdg⟩
    replace hL := hL.go hb
    replace hdg := Lib.hid (hdg _ (Below.refl _ _))
    clear hb htx q0 q1 q2 hbw
    go_wp2_with fail
    refine hdg.out.mono ?_
    rintro e w3 ⟨rfl, hb⟩
    replace hL := hL.go hb
    clear hb hdg
    have q0 := (hL.get (P := pBlk w.heap.size #[.bool false, .slice A n c, .int .i64 k] 25) (by repeat (first | exact List.mem_cons_self | apply List.mem_cons_of_mem))).cell 0 _ rfl
    have q1 := (hL.get (P := pBlk w.heap.size #[.bool false, .slice A n c, .int .i64 k] 25) (by repeat (first | exact List.mem_cons_self | apply List.mem_cons_of_mem))).cell 1 _ rfl
    have q2 := (hL.get (P := pBlk w.heap.size #[.bool false, .slice A n c, .int .i64 k] 25) (by repeat (first | exact List.mem_cons_self | apply List.mem_cons_of_mem))).cell 2 _ rfl
    go_wp2_with fail
    refine (hnm.out _).mono ?_
    rintro e w4 ⟨rfl, hb⟩
    replace hL := hL.go hb
    go_wp2
    go_ret
    exact ⟨rfl, hL.below⟩
set_option maxRecDepth 100000 in
set_option maxHeartbeats 2000000 in
theorem rfar2_p {w : World} {v : Value} {N : Nat} (k : Int) (h : IsT w v 128 N) (hd : DRight N k) (h0 : 0 < N) (hc : (21 < ((Lib.decDigits N).length : Int) + k ∨ ((Lib.decDigits N).length : Int) + k < -5) ∧ 1 < (Lib.decDigits N).length) :
    Calls Tryz.prog 13 #[.agg #[.bool false, v, .int .i64 k]] w fun e w' => e = .returned (.string (strL (lyT false N k))) ∧ Below w.heap.size w w' := by
  have hb0 := (Below.refl w.heap.size w).alloc (Nat.le_refl _) (.cells #[.bool false, v, .int .i64 k] 25)
  have hr := rright_t false k (h.below hb0)
  rw [decide_eq_true hd] at hr
  obtain ⟨A, c, zs, rfl, -⟩ := id h
  obtain ⟨n, hn⟩ : ∃ n, zs.length = n := ⟨_, rfl⟩
  rw [hn] at hr h hb0 ⊢
  clear hn
  have hzn := isT_posU h h0
  have hL := ((LiveP.start w).put (pT_st _ _ _) h |>.go hb0).put (pBlk_st _ _ _) (pBlk_made w #[.bool false, .slice A n c, .int .i64 k] 25)
  have hnb : ((n : Int) == 0) = false := by rw [beq_eq_false_iff_ne]; omega
  obtain ⟨S, hS⟩ : ∃ S, Lib.decDigits N = S := ⟨_, rfl⟩
  rw [hS] at hc
  obtain ⟨z, hz⟩ : ∃ z, S.length = z := ⟨_, rfl⟩
  rw [hz] at hc
  have hz0 : 0 < z := by rw [← hz, ← hS]; exact List.length_pos_iff.2 (dec_ne N)
  have hzz : z ≤ 2000 := by
    rcases hd with ⟨h1, _⟩ | ⟨_, _, h1, _⟩
    · omega
    · rw [hS, hz] at h1; exact h1
  have hk5 : -5000 ≤ k ∧ k ≤ 5000 := by
    rcases hd with ⟨h1, _⟩ | ⟨_, _, _, h1, h2⟩
    · omega
    · exact ⟨h1, h2⟩
  obtain ⟨hk5, hk6⟩ := hk5
  have hsz : (strL S).size = z := by rw [strL_size, hz]
  have htx := rtext_t (IsT.isN h) (by decide)
  rw [hS] at htx
  replace htx := Lib.hid htx
  replace hr := Lib.hid hr
  have hT0 : lyT false N k = [] ++ lyB S k := by rw [lyT, lyS_pos h0, hS]; rfl
  replace hS := Lib.hid hS
  replace hz := Lib.hid hz
  replace hd := Lib.hid hd
  clear h hzn
  obtain ⟨hcf, hc1⟩ := hc
  have hsl : ∀ w, (Instr.slice 9 (.string (strL S)) none (some (.int .i64 1)) none).run Tryz.prog w = .ok (.string (strL (S.take 1))) w := fun w => slice_to S 1 (by have := hz.out; omega) w
  have hsf : ∀ w, (Instr.slice 9 (.string (strL S)) (some (.int .i64 1)) none none).run Tryz.prog w = .ok (.string (strL (S.drop 1))) w := fun w => slice_from S 1 (by have := hz.out; omega) w
  obtain ⟨s1, hs1⟩ : ∃ x, S.take 1 = x := ⟨_, rfl⟩
  obtain ⟨s2, hs2⟩ : ∃ x, S.drop 1 = x := ⟨_, rfl⟩
  rw [hs1] at hsl
  rw [hs2] at hsf
  have hs1l : s1.length ≤ 1 := by rw [← hs1, List.length_take]; omega
  have hs2l : s2.length ≤ 2000 := by rw [← hs2, List.length_drop]; have := hz.out; omega
  have hzs := strL_size s1
  have hzt := strL_size s2
  obtain ⟨o1, e1, i1, z1, y1⟩ := rcat [] s1 ⟨#[]⟩ (strL s1) rfl rfl 3 (by simp; omega)
  obtain ⟨o2, e2, i2, z2, y2⟩ := lcat_l o1 [46] ⟨#[46]⟩ rfl 4 (by simp; omega)
  obtain ⟨o3, e3, i3, z3, y3⟩ := lcat_l o2 s2 (strL s2) rfl 2010 (by omega)
  obtain ⟨o4, e4, i4, z4, y4⟩ := lcat_l o3 [101] ⟨#[101]⟩ rfl 2020 (by simp; omega)
  have hul := numT_len ((z : Int) + k - 1) (by omega)
  have hnm := fun w => rnum_any ((z : Int) + k - 1) ⟨by omega, by omega⟩ w
  obtain ⟨u, hu⟩ : ∃ u, numT ((z : Int) + k - 1) = u := ⟨_, rfl⟩
  rw [hu] at hul hnm
  have hzu := strL_size u
  obtain ⟨o5, e5, i5, z5, y5⟩ := lcat_l o4 u (strL u) rfl 2060 (by omega)
  have hB : lyB S k = S.take 1 ++ 46 :: (S.drop 1 ++ 101 :: numT ((z : Int) + k - 1)) := by
    unfold lyB
    rw [hz.out, if_neg (by omega), if_neg (by omega), if_neg (by omega), if_neg (by omega)]
  have hfin : lyT false N k = o5 := by
    rw [hT0, hB, hu, i5.out, i4.out, i3.out, i2.out, i1.out, hs1, hs2]
    simp
  rw [hfin]
  replace hnm := Lib.hid hnm
  have hz1 : (1 : Int) < z := by omega
  clear hfin hB hT0 hu hs1 hs2
  rcases hcf with hcf | hcf
  all_goals
    go_enter Tryz.func13, Tryz.ntmps13
    go_wp2_with fail
    refine hr.out.mono ?_
    rintro e w1 ⟨rfl, hb⟩
    have hbw := chain hb0 hb
    replace hL := hL.go hb
    clear hb hr
    have q0 := (hL.get (P := pBlk w.heap.size #[.bool false, .slice A n c, .int .i64 k] 25) (by repeat (first | exact List.mem_cons_self | apply List.mem_cons_of_mem))).cell 0 _ rfl
    have q1 := (hL.get (P := pBlk w.heap.size #[.bool false, .slice A n c, .int .i64 k] 25) (by repeat (first | exact List.mem_cons_self | apply List.mem_cons_of_mem))).cell 1 _ rfl
    have q2 := (hL.get (P := pBlk w.heap.size #[.bool false, .slice A n c, .int .i64 k] 25) (by repeat (first | exact List.mem_cons_self | apply List.mem_cons_of_mem))).cell 2 _ rfl
    go_wp2_with fail
    refine (htx.out _ hbw).mono ?_
    rintro e w2 ⟨u, rfl, hb, hdg⟩
    replace hL := hL.go hb
    replace hdg := Lib.hid (hdg _ (Below.refl _ _))
    clear hb htx q0 q1 q2 hbw
    go_wp2_with fail
    refine hdg.out.mono ?_
    rintro e w3 ⟨rfl, hb⟩
    replace hL := hL.go hb
    clear hb hdg
    have q0 := (hL.get (P := pBlk w.heap.size #[.bool false, .slice A n c, .int .i64 k] 25) (by repeat (first | exact List.mem_cons_self | apply List.mem_cons_of_mem))).cell 0 _ rfl
    have q1 := (hL.get (P := pBlk w.heap.size #[.bool false, .slice A n c, .int .i64 k] 25) (by repeat (first | exact List.mem_cons_self | apply List.mem_cons_of_mem))).cell 1 _ rfl
    have q2 := (hL.get (P := pBlk w.heap.size #[.bool false, .slice A n c, .int .i64 k] 25) (by repeat (first | exact List.mem_cons_self | apply List.mem_cons_of_mem))).cell 2 _ rfl
    go_wp2_with fail
    refine (hnm.out _).mono ?_
    rintro e w4 ⟨rfl, hb⟩
    replace hL := hL.go hb
    go_wp2
    go_ret
    exact ⟨rfl, hL.below⟩
set_option maxRecDepth 100000 in
set_option maxHeartbeats 2000000 in
theorem rmid_p {w : World} {v : Value} {N : Nat} (k : Int) (h : IsT w v 128 N) (hd : DRight N k) (h0 : 0 < N) (hc : -5 ≤ ((Lib.decDigits N).length : Int) + k ∧ ((Lib.decDigits N).length : Int) + k ≤ 0) :
    Calls Tryz.prog 13 #[.agg #[.bool false, v, .int .i64 k]] w fun e w' => e = .returned (.string (strL (lyT false N k))) ∧ Below w.heap.size w w' := by
  have hb0 := (Below.refl w.heap.size w).alloc (Nat.le_refl _) (.cells #[.bool false, v, .int .i64 k] 25)
  have hr := rright_t false k (h.below hb0)
  rw [decide_eq_true hd] at hr
  obtain ⟨A, c, zs, rfl, -⟩ := id h
  obtain ⟨n, hn⟩ : ∃ n, zs.length = n := ⟨_, rfl⟩
  rw [hn] at hr h hb0 ⊢
  clear hn
  have hzn := isT_posU h h0
  have hL := ((LiveP.start w).put (pT_st _ _ _) h |>.go hb0).put (pBlk_st _ _ _) (pBlk_made w #[.bool false, .slice A n c, .int .i64 k] 25)
  have hnb : ((n : Int) == 0) = false := by rw [beq_eq_false_iff_ne]; omega
  obtain ⟨S, hS⟩ : ∃ S, Lib.decDigits N = S := ⟨_, rfl⟩
  rw [hS] at hc
  obtain ⟨z, hz⟩ : ∃ z, S.length = z := ⟨_, rfl⟩
  rw [hz] at hc
  have hz0 : 0 < z := by rw [← hz, ← hS]; exact List.length_pos_iff.2 (dec_ne N)
  have hzz : z ≤ 2000 := by
    rcases hd with ⟨h1, _⟩ | ⟨_, _, h1, _⟩
    · omega
    · rw [hS, hz] at h1; exact h1
  have hk5 : -5000 ≤ k ∧ k ≤ 5000 := by
    rcases hd with ⟨h1, _⟩ | ⟨_, _, _, h1, h2⟩
    · omega
    · exact ⟨h1, h2⟩
  obtain ⟨hk5, hk6⟩ := hk5
  have hsz : (strL S).size = z := by rw [strL_size, hz]
  have htx := rtext_t (IsT.isN h) (by decide)
  rw [hS] at htx
  replace htx := Lib.hid htx
  replace hr := Lib.hid hr
  have hT0 : lyT false N k = [] ++ lyB S k := by rw [lyT, lyS_pos h0, hS]; rfl
  replace hS := Lib.hid hS
  replace hz := Lib.hid hz
  replace hd := Lib.hid hd
  clear h hzn
  obtain ⟨hc1, hc2⟩ := hc
  obtain ⟨m, hm⟩ : ∃ m : Nat, -((z : Int) + k) = m := ⟨(-((z : Int) + k)).toNat, by omega⟩
  have hB : lyB S k = 48 :: 46 :: (List.replicate m 48 ++ S) := by
    unfold lyB
    rw [hz.out, if_neg (by omega), if_neg (by omega), if_pos ⟨by omega, by omega⟩, hm, Int.toNat_natCast]
  obtain ⟨o1, e1, i1, z1, y1⟩ := rcat [] [48, 46] ⟨#[]⟩ ⟨#[48, 46]⟩ rfl rfl 3 (by decide)
  have hfin : ∀ Z, Z = List.replicate m 48 → lyT false N k = o1 ++ Z ++ S := by
    intro Z hZ
    rw [hT0, hB, i1.out, hZ]
    simp
  replace hfin := Lib.hid hfin
  have hp1 : ¬ 21 < (z : Int) + k := by omega
  have hp2 : ¬ (z : Int) + k < -5 := by omega
  clear hB hT0
  go_enter Tryz.func13, Tryz.ntmps13
  go_wp2_with fail
  refine hr.out.mono ?_
  rintro e w1 ⟨rfl, hb⟩
  have hbw := chain hb0 hb
  replace hL := hL.go hb
  clear hb hr
  have q0 := (hL.get (P := pBlk w.heap.size #[.bool false, .slice A n c, .int .i64 k] 25) (by repeat (first | exact List.mem_cons_self | apply List.mem_cons_of_mem))).cell 0 _ rfl
  have q1 := (hL.get (P := pBlk w.heap.size #[.bool false, .slice A n c, .int .i64 k] 25) (by repeat (first | exact List.mem_cons_self | apply List.mem_cons_of_mem))).cell 1 _ rfl
  have q2 := (hL.get (P := pBlk w.heap.size #[.bool false, .slice A n c, .int .i64 k] 25) (by repeat (first | exact List.mem_cons_self | apply List.mem_cons_of_mem))).cell 2 _ rfl
  go_wp2_with fail
  refine (htx.out _ hbw).mono ?_
  rintro e w2 ⟨u, rfl, hb, hdg⟩
  replace hL := hL.go hb
  replace hdg := Lib.hid (hdg _ (Below.refl _ _))
  clear hb htx q0 q1 q2 hbw
  go_wp2_with fail
  refine hdg.out.mono ?_
  rintro e w3 ⟨rfl, hb⟩
  replace hL := hL.go hb
  clear hb hdg
  have q0 := (hL.get (P := pBlk w.heap.size #[.bool false, .slice A n c, .int .i64 k] 25) (by repeat (first | exact List.mem_cons_self | apply List.mem_cons_of_mem))).cell 0 _ rfl
  have q1 := (hL.get (P := pBlk w.heap.size #[.bool false, .slice A n c, .int .i64 k] 25) (by repeat (first | exact List.mem_cons_self | apply List.mem_cons_of_mem))).cell 1 _ rfl
  have q2 := (hL.get (P := pBlk w.heap.size #[.bool false, .slice A n c, .int .i64 k] 25) (by repeat (first | exact List.mem_cons_self | apply List.mem_cons_of_mem))).cell 2 _ rfl
  go_wp2
  go_loopg [4, 7] m (fun g ov iv wr => ∃ i : Nat, i + g = m ∧ ov = .string (strL (o1 ++ List.replicate i 48)) ∧ iv = .int .i64 ((z : Int) + k + i) ∧ w3 = wr)
  case atStart => exact ⟨0, by omega, by simp, by simp, rfl⟩
  case round =>
    obtain ⟨i, hig, rfl, rfl, rfl⟩ := hrel
    by_cases hk0 : gk = 0
    · obtain rfl : m = i := by omega
      have hx : ¬ (z : Int) + k + (m : Int) < 0 := by omega
      have hf := hfin.out _ rfl
      obtain ⟨o2, ho2⟩ : ∃ x, o1 ++ List.replicate m 48 = x := ⟨_, rfl⟩
      have hol : o2.length ≤ 20 := by rw [← ho2, List.length_append, List.length_replicate]; omega
      rw [ho2] at hf ⊢
      have hzo := strL_size o2
      obtain ⟨o3, e3, i3, z3, y3⟩ := lcat_l o2 S (strL S) rfl 2030 (by have := hz.out; omega)
      rw [← i3.out] at hf
      replace hf := Lib.hid hf
      clear ho2
      go_wp2
      go_ret
      refine ⟨?_, hL.below⟩
      rw [hf.out]
      rfl
    · have hx : (z : Int) + k + (i : Int) < 0 := by omega
      obtain ⟨o2, ho2⟩ : ∃ x, o1 ++ List.replicate i 48 = x := ⟨_, rfl⟩
      have hol : o2.length ≤ 20 := by rw [← ho2, List.length_append, List.length_replicate]; omega
      rw [ho2]
      have hzo := strL_size o2
      obtain ⟨o3, e3, i3, z3, y3⟩ := lcat_l o2 [48] ⟨#[48]⟩ rfl 30 (by simp; omega)
      have hn : o3 = o1 ++ List.replicate (i + 1) 48 := by rw [i3.out, ← ho2, List.replicate_succ', List.append_assoc]
      replace hn := Lib.hid hn
      clear hL ho2 i3
      go_wp2
      go_roundg (gk - 1)
      case measure => omega
      case rel => exact ⟨i + 1, by omega, by rw [hn.out], by first | (congr 1; omega) | (simp; omega), rfl⟩
set_option maxRecDepth 100000 in
set_option maxHeartbeats 2000000 in
theorem rwide_p {w : World} {v : Value} {N : Nat} (k : Int) (h : IsT w v 128 N) (hd : DRight N k) (h0 : 0 < N) (hc : 1 ≤ ((Lib.decDigits N).length : Int) + k ∧ ((Lib.decDigits N).length : Int) + k ≤ 21) :
    Calls Tryz.prog 13 #[.agg #[.bool false, v, .int .i64 k]] w fun e w' => e = .returned (.string (strL (lyT false N k))) ∧ Below w.heap.size w w' := by
  have hb0 := (Below.refl w.heap.size w).alloc (Nat.le_refl _) (.cells #[.bool false, v, .int .i64 k] 25)
  have hr := rright_t false k (h.below hb0)
  rw [decide_eq_true hd] at hr
  obtain ⟨A, c, zs, rfl, -⟩ := id h
  obtain ⟨n, hn⟩ : ∃ n, zs.length = n := ⟨_, rfl⟩
  rw [hn] at hr h hb0 ⊢
  clear hn
  have hzn := isT_posU h h0
  have hL := ((LiveP.start w).put (pT_st _ _ _) h |>.go hb0).put (pBlk_st _ _ _) (pBlk_made w #[.bool false, .slice A n c, .int .i64 k] 25)
  have hnb : ((n : Int) == 0) = false := by rw [beq_eq_false_iff_ne]; omega
  obtain ⟨S, hS⟩ : ∃ S, Lib.decDigits N = S := ⟨_, rfl⟩
  rw [hS] at hc
  obtain ⟨z, hz⟩ : ∃ z, S.length = z := ⟨_, rfl⟩
  rw [hz] at hc
  have hz0 : 0 < z := by rw [← hz, ← hS]; exact List.length_pos_iff.2 (dec_ne N)
  have hzz : z ≤ 2000 := by
    rcases hd with ⟨h1, _⟩ | ⟨_, _, h1, _⟩
    · omega
    · rw [hS, hz] at h1; exact h1
  have hk5 : -5000 ≤ k ∧ k ≤ 5000 := by
    rcases hd with ⟨h1, _⟩ | ⟨_, _, _, h1, h2⟩
    · omega
    · exact ⟨h1, h2⟩
  obtain ⟨hk5, hk6⟩ := hk5
  have hsz : (strL S).size = z := by rw [strL_size, hz]
  have htx := rtext_t (IsT.isN h) (by decide)
  rw [hS] at htx
  replace htx := Lib.hid htx
  replace hr := Lib.hid hr
  have hT0 : lyT false N k = [] ++ lyB S k := by rw [lyT, lyS_pos h0, hS]; rfl
  replace hS := Lib.hid hS
  replace hz := Lib.hid hz
  replace hd := Lib.hid hd
  clear h hzn
  obtain ⟨hc1, hc2⟩ := hc
  obtain ⟨p, hp⟩ : ∃ p : Nat, (z : Int) + k = p := ⟨((z : Int) + k).toNat, by omega⟩
  have hE : lyG S p (max z p) = lyB S k := by
    have := lyG_end (S := S) (k := k) (p := p) (by rw [hz.out]; exact hp) (by omega) (by omega)
    rwa [hz.out] at this
  have hfin : lyT false N k = [] ++ lyG S p (max z p) := by rw [hT0, hE]
  have hp1 : ¬ 21 < (z : Int) + k := by omega
  have hp2 : ¬ (z : Int) + k < -5 := by omega
  have hp3 : ¬ (z : Int) + k ≤ 0 := by omega
  have hq1 : ¬ 21 < (p : Int) := by omega
  have hq2 : ¬ (p : Int) < -5 := by omega
  have hq3 : ¬ (p : Int) ≤ 0 := by omega
  have hd1 : decide (21 < (p : Int)) = false := decide_eq_false hq1
  have hd2 : decide ((p : Int) < -5) = false := decide_eq_false hq2
  have hd3 : decide ((p : Int) ≤ 0) = false := decide_eq_false hq3
  have hd4 : decide (p = 0) = false := decide_eq_false (by omega)
  obtain ⟨m, hm⟩ : ∃ m, max z p = m := ⟨_, rfl⟩
  rw [hm] at hfin
  rw [hfin]
  clear hE hT0 hfin
  go_enter Tryz.func13, Tryz.ntmps13
  go_wp2_with fail
  refine hr.out.mono ?_
  rintro e w1 ⟨rfl, hb⟩
  have hbw := chain hb0 hb
  replace hL := hL.go hb
  clear hb hr
  have q0 := (hL.get (P := pBlk w.heap.size #[.bool false, .slice A n c, .int .i64 k] 25) (by repeat (first | exact List.mem_cons_self | apply List.mem_cons_of_mem))).cell 0 _ rfl
  have q1 := (hL.get (P := pBlk w.heap.size #[.bool false, .slice A n c, .int .i64 k] 25) (by repeat (first | exact List.mem_cons_self | apply List.mem_cons_of_mem))).cell 1 _ rfl
  have q2 := (hL.get (P := pBlk w.heap.size #[.bool false, .slice A n c, .int .i64 k] 25) (by repeat (first | exact List.mem_cons_self | apply List.mem_cons_of_mem))).cell 2 _ rfl
  go_wp2_with fail
  refine (htx.out _ hbw).mono ?_
  rintro e w2 ⟨u, rfl, hb, hdg⟩
  replace hL := hL.go hb
  replace hdg := Lib.hid (hdg _ (Below.refl _ _))
  clear hb htx q0 q1 q2 hbw
  go_wp2_with fail
  refine hdg.out.mono ?_
  rintro e w3 ⟨rfl, hb⟩
  replace hL := hL.go hb
  clear hb hdg
  have q0 := (hL.get (P := pBlk w.heap.size #[.bool false, .slice A n c, .int .i64 k] 25) (by repeat (first | exact List.mem_cons_self | apply List.mem_cons_of_mem))).cell 0 _ rfl
  have q1 := (hL.get (P := pBlk w.heap.size #[.bool false, .slice A n c, .int .i64 k] 25) (by repeat (first | exact List.mem_cons_self | apply List.mem_cons_of_mem))).cell 1 _ rfl
  have q2 := (hL.get (P := pBlk w.heap.size #[.bool false, .slice A n c, .int .i64 k] 25) (by repeat (first | exact List.mem_cons_self | apply List.mem_cons_of_mem))).cell 2 _ rfl
  go_wp2
  go_loopg [4, 8] m (fun g ov iv wr => ∃ i : Nat, i + g = m ∧ ov = .string (strL ([] ++ lyG S p i)) ∧ iv = .int .i64 i ∧ w3 = wr)
  case atStart => exact ⟨0, by omega, by rw [lyG_start]; rfl, rfl, rfl⟩
  case round =>
    obtain ⟨i, hig, rfl, rfl, rfl⟩ := hrel
    have hol : ([] ++ lyG S p i).length ≤ 5000 := by
      have := lyG_len S p i
      rw [hz.out] at this
      have hg : ([] : List UInt8).length ≤ 1 := by decide
      rw [List.length_append]
      omega
    by_cases hk0 : gk = 0
    · obtain rfl : m = i := by omega
      have hx1 : ¬ (m : Int) < z := by omega
      have hx2 : ¬ (m : Int) < p := by omega
      clear hol
      go_wp2
      go_ret
      exact ⟨rfl, hL.below⟩
    · obtain ⟨o, ho⟩ : ∃ x, [] ++ lyG S p i = x := ⟨_, rfl⟩
      rw [ho] at hol ⊢
      have hzo := strL_size o
      by_cases hiz : i < z
      · have hx1 : (i : Int) < z := by omega
        have hst := lyG_dig (S := S) (p := p) (i := i) (by rw [hz.out]; exact hiz)
        have hsl : ∀ w, (Instr.slice 9 (.string (strL S)) (some (.int .i64 i)) (some (.int .i64 (i + 1))) none).run Tryz.prog w = .ok (.string (strL [S.getD i 0])) w := fun w => slice_one S i (by rw [hz.out]; exact hiz) w
        obtain ⟨x, hx⟩ : ∃ x, S.getD i 0 = x := ⟨_, rfl⟩
        rw [hx] at hst hsl
        have hzx : (strL [x]).size = 1 := strL_size [x]
        by_cases hip : i = p
        · rw [if_pos hip] at hst
          have hb1 : ((i : Int) == (p : Int)) = true := by rw [beq_iff_eq]; omega
          obtain ⟨o1, e1, i1, z1, y1⟩ := lcat_l o [46] ⟨#[46]⟩ rfl 6000 (by simp; omega)
          obtain ⟨o2, e2, i2, z2, y2⟩ := lcat_l o1 [x] (strL [x]) rfl 7000 (by simp; omega)
          have hn : [] ++ lyG S p (i + 1) = o2 := by rw [hst, i2.out, i1.out, ← ho]; simp
          replace hn := Lib.hid hn
          replace hip := Lib.hid hip
          clear hL ho hst hx i1 i2
          go_wp2
          go_roundg (gk - 1)
          case measure => omega
          case rel => exact ⟨i + 1, by omega, by rw [hn.out], by simp, rfl⟩
        · rw [if_neg hip] at hst
          have hb1 : ((i : Int) == (p : Int)) = false := by rw [beq_eq_false_iff_ne]; omega
          obtain ⟨o2, e2, i2, z2, y2⟩ := lcat_l o [x] (strL [x]) rfl 7000 (by simp; omega)
          have hn : [] ++ lyG S p (i + 1) = o2 := by rw [hst, i2.out, ← ho]; simp
          replace hn := Lib.hid hn
          replace hip := Lib.hid hip
          clear hL ho hst hx i2
          go_wp2
          go_roundg (gk - 1)
          case measure => omega
          case rel => exact ⟨i + 1, by omega, by rw [hn.out], by simp, rfl⟩
      · have hx1 : ¬ (i : Int) < z := by omega
        have hx2 : (i : Int) < p := by omega
        have hst := lyG_zero (S := S) (p := p) (i := i) (by rw [hz.out]; omega) (by omega)
        have hb1 : ((i : Int) == (p : Int)) = false := by rw [beq_eq_false_iff_ne]; omega
        obtain ⟨o2, e2, i2, z2, y2⟩ := lcat_l o [48] ⟨#[48]⟩ rfl 7000 (by simp; omega)
        have hn : [] ++ lyG S p (i + 1) = o2 := by rw [hst, i2.out, ← ho]; simp
        replace hn := Lib.hid hn
        clear hL ho hst i2
        go_wp2
        go_roundg (gk - 1)
        case measure => omega
        case rel => exact ⟨i + 1, by omega, by rw [hn.out], by simp, rfl⟩
set_option maxRecDepth 100000 in
set_option maxHeartbeats 2000000 in
theorem rfar1_n {w : World} {v : Value} {N : Nat} (k : Int) (h : IsT w v 128 N) (hd : DRight N k) (h0 : 0 < N) (hc : (21 < ((Lib.decDigits N).length : Int) + k ∨ ((Lib.decDigits N).length : Int) + k < -5) ∧ (Lib.decDigits N).length = 1) :
    Calls Tryz.prog 13 #[.agg #[.bool true, v, .int .i64 k]] w fun e w' => e = .returned (.string (strL (lyT true N k))) ∧ Below w.heap.size w w' := by
  have hb0 := (Below.refl w.heap.size w).alloc (Nat.le_refl _) (.cells #[.bool true, v, .int .i64 k] 25)
  have hr := rright_t true k (h.below hb0)
  rw [decide_eq_true hd] at hr
  obtain ⟨A, c, zs, rfl, -⟩ := id h
  obtain ⟨n, hn⟩ : ∃ n, zs.length = n := ⟨_, rfl⟩
  rw [hn] at hr h hb0 ⊢
  clear hn
  have hzn := isT_posU h h0
  have hL := ((LiveP.start w).put (pT_st _ _ _) h |>.go hb0).put (pBlk_st _ _ _) (pBlk_made w #[.bool true, .slice A n c, .int .i64 k] 25)
  have hnb : ((n : Int) == 0) = false := by rw [beq_eq_false_iff_ne]; omega
  obtain ⟨S, hS⟩ : ∃ S, Lib.decDigits N = S := ⟨_, rfl⟩
  rw [hS] at hc
  obtain ⟨z, hz⟩ : ∃ z, S.length = z := ⟨_, rfl⟩
  rw [hz] at hc
  have hz0 : 0 < z := by rw [← hz, ← hS]; exact List.length_pos_iff.2 (dec_ne N)
  have hzz : z ≤ 2000 := by
    rcases hd with ⟨h1, _⟩ | ⟨_, _, h1, _⟩
    · omega
    · rw [hS, hz] at h1; exact h1
  have hk5 : -5000 ≤ k ∧ k ≤ 5000 := by
    rcases hd with ⟨h1, _⟩ | ⟨_, _, _, h1, h2⟩
    · omega
    · exact ⟨h1, h2⟩
  obtain ⟨hk5, hk6⟩ := hk5
  have hsz : (strL S).size = z := by rw [strL_size, hz]
  have htx := rtext_t (IsT.isN h) (by decide)
  rw [hS] at htx
  replace htx := Lib.hid htx
  replace hr := Lib.hid hr
  have hT0 : lyT true N k = [45] ++ lyB S k := by rw [lyT, lyS_pos h0, hS]; rfl
  replace hS := Lib.hid hS
  replace hz := Lib.hid hz
  replace hd := Lib.hid hd
  clear h hzn
  obtain ⟨hcf, hc1⟩ := hc
  have hsl : ∀ w, (Instr.slice 9 (.string (strL S)) none (some (.int .i64 1)) none).run Tryz.prog w = .ok (.string (strL (S.take 1))) w := fun w => slice_to S 1 (by have := hz.out; omega) w
  obtain ⟨s1, hs1⟩ : ∃ x, S.take 1 = x := ⟨_, rfl⟩
  rw [hs1] at hsl
  have hs1l : s1.length ≤ 1 := by rw [← hs1, List.length_take]; omega
  have hzs := strL_size s1
  obtain ⟨o1, e1, i1, z1, y1⟩ := rcat [45] s1 ⟨#[45]⟩ (strL s1) rfl rfl 3 (by simp; omega)
  obtain ⟨o2, e2, i2, z2, y2⟩ := lcat_l o1 [101] ⟨#[101]⟩ rfl 4 (by simp; omega)
  have hul := numT_len ((z : Int) + k - 1) (by omega)
  have hnm := fun w => rnum_any ((z : Int) + k - 1) ⟨by omega, by omega⟩ w
  obtain ⟨u, hu⟩ : ∃ u, numT ((z : Int) + k - 1) = u := ⟨_, rfl⟩
  rw [hu] at hul hnm
  have hzu := strL_size u
  obtain ⟨o3, e3, i3, z3, y3⟩ := lcat_l o2 u (strL u) rfl 30 (by omega)
  have hB : lyB S k = S ++ 101 :: numT ((z : Int) + k - 1) := by
    unfold lyB
    rw [hz.out, if_neg (by omega), if_neg (by omega), if_neg (by omega), if_pos (by omega)]
  have hfin : lyT true N k = o3 := by
    have hS1 : s1 = S := by rw [← hs1, List.take_of_length_le (by have := hz.out; omega)]
    rw [hT0, hB, hu, i3.out, i2.out, i1.out, hS1]
    simp
  rw [hfin]
  replace hnm := Lib.hid hnm
  have hz1 : ¬ (1 : Int) < z := by omega
  replace hc1 := Lib.hid hc1
  clear hfin hB hT0 hu hs1
  rcases hcf with hcf | hcf
  all_goals
    go_enter Tryz.func13, Tryz.ntmps13
    go_wp2_with fail
    refine hr.out.mono ?_
    rintro e w1 ⟨rfl, hb⟩
    have hbw := chain hb0 hb
    replace hL := hL.go hb
    clear hb hr
    have q0 := (hL.get (P := pBlk w.heap.size #[.bool true, .slice A n c, .int .i64 k] 25) (by repeat (first | exact List.mem_cons_self | apply List.mem_cons_of_mem))).cell 0 _ rfl
    have q1 := (hL.get (P := pBlk w.heap.size #[.bool true, .slice A n c, .int .i64 k] 25) (by repeat (first | exact List.mem_cons_self | apply List.mem_cons_of_mem))).cell 1 _ rfl
    have q2 := (hL.get (P := pBlk w.heap.size #[.bool true, .slice A n c, .int .i64 k] 25) (by repeat (first | exact List.mem_cons_self | apply List.mem_cons_of_mem))).cell 2 _ rfl
    go_wp2_with fail
    refine (htx.out _ hbw).mono ?_
    rintro e w2 ⟨u, rfl, hb, hdg⟩
    replace hL := hL.go hb
    replace hdg := Lib.hid (hdg _ (Below.refl _ _))
    clear hb htx q0 q1 q2 hbw
    go_wp2_with fail
    refine hdg.out.mono ?_
    rintro e w3 ⟨rfl, hb⟩
    replace hL := hL.go hb
    clear hb hdg
    have q0 := (hL.get (P := pBlk w.heap.size #[.bool true, .slice A n c, .int .i64 k] 25) (by repeat (first | exact List.mem_cons_self | apply List.mem_cons_of_mem))).cell 0 _ rfl
    have q1 := (hL.get (P := pBlk w.heap.size #[.bool true, .slice A n c, .int .i64 k] 25) (by repeat (first | exact List.mem_cons_self | apply List.mem_cons_of_mem))).cell 1 _ rfl
    have q2 := (hL.get (P := pBlk w.heap.size #[.bool true, .slice A n c, .int .i64 k] 25) (by repeat (first | exact List.mem_cons_self | apply List.mem_cons_of_mem))).cell 2 _ rfl
    go_wp2_with fail
    refine (hnm.out _).mono ?_
    rintro e w4 ⟨rfl, hb⟩
    replace hL := hL.go hb
    go_wp2
    go_ret
    exact ⟨rfl, hL.below⟩
set_option maxRecDepth 100000 in
set_option maxHeartbeats 2000000 in
theorem rfar2_n {w : World} {v : Value} {N : Nat} (k : Int) (h : IsT w v 128 N) (hd : DRight N k) (h0 : 0 < N) (hc : (21 < ((Lib.decDigits N).length : Int) + k ∨ ((Lib.decDigits N).length : Int) + k < -5) ∧ 1 < (Lib.decDigits N).length) :
    Calls Tryz.prog 13 #[.agg #[.bool true, v, .int .i64 k]] w fun e w' => e = .returned (.string (strL (lyT true N k))) ∧ Below w.heap.size w w' := by
  have hb0 := (Below.refl w.heap.size w).alloc (Nat.le_refl _) (.cells #[.bool true, v, .int .i64 k] 25)
  have hr := rright_t true k (h.below hb0)
  rw [decide_eq_true hd] at hr
  obtain ⟨A, c, zs, rfl, -⟩ := id h
  obtain ⟨n, hn⟩ : ∃ n, zs.length = n := ⟨_, rfl⟩
  rw [hn] at hr h hb0 ⊢
  clear hn
  have hzn := isT_posU h h0
  have hL := ((LiveP.start w).put (pT_st _ _ _) h |>.go hb0).put (pBlk_st _ _ _) (pBlk_made w #[.bool true, .slice A n c, .int .i64 k] 25)
  have hnb : ((n : Int) == 0) = false := by rw [beq_eq_false_iff_ne]; omega
  obtain ⟨S, hS⟩ : ∃ S, Lib.decDigits N = S := ⟨_, rfl⟩
  rw [hS] at hc
  obtain ⟨z, hz⟩ : ∃ z, S.length = z := ⟨_, rfl⟩
  rw [hz] at hc
  have hz0 : 0 < z := by rw [← hz, ← hS]; exact List.length_pos_iff.2 (dec_ne N)
  have hzz : z ≤ 2000 := by
    rcases hd with ⟨h1, _⟩ | ⟨_, _, h1, _⟩
    · omega
    · rw [hS, hz] at h1; exact h1
  have hk5 : -5000 ≤ k ∧ k ≤ 5000 := by
    rcases hd with ⟨h1, _⟩ | ⟨_, _, _, h1, h2⟩
    · omega
    · exact ⟨h1, h2⟩
  obtain ⟨hk5, hk6⟩ := hk5
  have hsz : (strL S).size = z := by rw [strL_size, hz]
  have htx := rtext_t (IsT.isN h) (by decide)
  rw [hS] at htx
  replace htx := Lib.hid htx
  replace hr := Lib.hid hr
  have hT0 : lyT true N k = [45] ++ lyB S k := by rw [lyT, lyS_pos h0, hS]; rfl
  replace hS := Lib.hid hS
  replace hz := Lib.hid hz
  replace hd := Lib.hid hd
  clear h hzn
  obtain ⟨hcf, hc1⟩ := hc
  have hsl : ∀ w, (Instr.slice 9 (.string (strL S)) none (some (.int .i64 1)) none).run Tryz.prog w = .ok (.string (strL (S.take 1))) w := fun w => slice_to S 1 (by have := hz.out; omega) w
  have hsf : ∀ w, (Instr.slice 9 (.string (strL S)) (some (.int .i64 1)) none none).run Tryz.prog w = .ok (.string (strL (S.drop 1))) w := fun w => slice_from S 1 (by have := hz.out; omega) w
  obtain ⟨s1, hs1⟩ : ∃ x, S.take 1 = x := ⟨_, rfl⟩
  obtain ⟨s2, hs2⟩ : ∃ x, S.drop 1 = x := ⟨_, rfl⟩
  rw [hs1] at hsl
  rw [hs2] at hsf
  have hs1l : s1.length ≤ 1 := by rw [← hs1, List.length_take]; omega
  have hs2l : s2.length ≤ 2000 := by rw [← hs2, List.length_drop]; have := hz.out; omega
  have hzs := strL_size s1
  have hzt := strL_size s2
  obtain ⟨o1, e1, i1, z1, y1⟩ := rcat [45] s1 ⟨#[45]⟩ (strL s1) rfl rfl 3 (by simp; omega)
  obtain ⟨o2, e2, i2, z2, y2⟩ := lcat_l o1 [46] ⟨#[46]⟩ rfl 4 (by simp; omega)
  obtain ⟨o3, e3, i3, z3, y3⟩ := lcat_l o2 s2 (strL s2) rfl 2010 (by omega)
  obtain ⟨o4, e4, i4, z4, y4⟩ := lcat_l o3 [101] ⟨#[101]⟩ rfl 2020 (by simp; omega)
  have hul := numT_len ((z : Int) + k - 1) (by omega)
  have hnm := fun w => rnum_any ((z : Int) + k - 1) ⟨by omega, by omega⟩ w
  obtain ⟨u, hu⟩ : ∃ u, numT ((z : Int) + k - 1) = u := ⟨_, rfl⟩
  rw [hu] at hul hnm
  have hzu := strL_size u
  obtain ⟨o5, e5, i5, z5, y5⟩ := lcat_l o4 u (strL u) rfl 2060 (by omega)
  have hB : lyB S k = S.take 1 ++ 46 :: (S.drop 1 ++ 101 :: numT ((z : Int) + k - 1)) := by
    unfold lyB
    rw [hz.out, if_neg (by omega), if_neg (by omega), if_neg (by omega), if_neg (by omega)]
  have hfin : lyT true N k = o5 := by
    rw [hT0, hB, hu, i5.out, i4.out, i3.out, i2.out, i1.out, hs1, hs2]
    simp
  rw [hfin]
  replace hnm := Lib.hid hnm
  have hz1 : (1 : Int) < z := by omega
  clear hfin hB hT0 hu hs1 hs2
  rcases hcf with hcf | hcf
  all_goals
    go_enter Tryz.func13, Tryz.ntmps13
    go_wp2_with fail
    refine hr.out.mono ?_
    rintro e w1 ⟨rfl, hb⟩
    have hbw := chain hb0 hb
    replace hL := hL.go hb
    clear hb hr
    have q0 := (hL.get (P := pBlk w.heap.size #[.bool true, .slice A n c, .int .i64 k] 25) (by repeat (first | exact List.mem_cons_self | apply List.mem_cons_of_mem))).cell 0 _ rfl
    have q1 := (hL.get (P := pBlk w.heap.size #[.bool true, .slice A n c, .int .i64 k] 25) (by repeat (first | exact List.mem_cons_self | apply List.mem_cons_of_mem))).cell 1 _ rfl
    have q2 := (hL.get (P := pBlk w.heap.size #[.bool true, .slice A n c, .int .i64 k] 25) (by repeat (first | exact List.mem_cons_self | apply List.mem_cons_of_mem))).cell 2 _ rfl
    go_wp2_with fail
    refine (htx.out _ hbw).mono ?_
    rintro e w2 ⟨u, rfl, hb, hdg⟩
    replace hL := hL.go hb
    replace hdg := Lib.hid (hdg _ (Below.refl _ _))
    clear hb htx q0 q1 q2 hbw
    go_wp2_with fail
    refine hdg.out.mono ?_
    rintro e w3 ⟨rfl, hb⟩
    replace hL := hL.go hb
    clear hb hdg
    have q0 := (hL.get (P := pBlk w.heap.size #[.bool true, .slice A n c, .int .i64 k] 25) (by repeat (first | exact List.mem_cons_self | apply List.mem_cons_of_mem))).cell 0 _ rfl
    have q1 := (hL.get (P := pBlk w.heap.size #[.bool true, .slice A n c, .int .i64 k] 25) (by repeat (first | exact List.mem_cons_self | apply List.mem_cons_of_mem))).cell 1 _ rfl
    have q2 := (hL.get (P := pBlk w.heap.size #[.bool true, .slice A n c, .int .i64 k] 25) (by repeat (first | exact List.mem_cons_self | apply List.mem_cons_of_mem))).cell 2 _ rfl
    go_wp2_with fail
    refine (hnm.out _).mono ?_
    rintro e w4 ⟨rfl, hb⟩
    replace hL := hL.go hb
    go_wp2
    go_ret
    exact ⟨rfl, hL.below⟩
set_option maxRecDepth 100000 in
set_option maxHeartbeats 2000000 in
theorem rmid_n {w : World} {v : Value} {N : Nat} (k : Int) (h : IsT w v 128 N) (hd : DRight N k) (h0 : 0 < N) (hc : -5 ≤ ((Lib.decDigits N).length : Int) + k ∧ ((Lib.decDigits N).length : Int) + k ≤ 0) :
    Calls Tryz.prog 13 #[.agg #[.bool true, v, .int .i64 k]] w fun e w' => e = .returned (.string (strL (lyT true N k))) ∧ Below w.heap.size w w' := by
  have hb0 := (Below.refl w.heap.size w).alloc (Nat.le_refl _) (.cells #[.bool true, v, .int .i64 k] 25)
  have hr := rright_t true k (h.below hb0)
  rw [decide_eq_true hd] at hr
  obtain ⟨A, c, zs, rfl, -⟩ := id h
  obtain ⟨n, hn⟩ : ∃ n, zs.length = n := ⟨_, rfl⟩
  rw [hn] at hr h hb0 ⊢
  clear hn
  have hzn := isT_posU h h0
  have hL := ((LiveP.start w).put (pT_st _ _ _) h |>.go hb0).put (pBlk_st _ _ _) (pBlk_made w #[.bool true, .slice A n c, .int .i64 k] 25)
  have hnb : ((n : Int) == 0) = false := by rw [beq_eq_false_iff_ne]; omega
  obtain ⟨S, hS⟩ : ∃ S, Lib.decDigits N = S := ⟨_, rfl⟩
  rw [hS] at hc
  obtain ⟨z, hz⟩ : ∃ z, S.length = z := ⟨_, rfl⟩
  rw [hz] at hc
  have hz0 : 0 < z := by rw [← hz, ← hS]; exact List.length_pos_iff.2 (dec_ne N)
  have hzz : z ≤ 2000 := by
    rcases hd with ⟨h1, _⟩ | ⟨_, _, h1, _⟩
    · omega
    · rw [hS, hz] at h1; exact h1
  have hk5 : -5000 ≤ k ∧ k ≤ 5000 := by
    rcases hd with ⟨h1, _⟩ | ⟨_, _, _, h1, h2⟩
    · omega
    · exact ⟨h1, h2⟩
  obtain ⟨hk5, hk6⟩ := hk5
  have hsz : (strL S).size = z := by rw [strL_size, hz]
  have htx := rtext_t (IsT.isN h) (by decide)
  rw [hS] at htx
  replace htx := Lib.hid htx
  replace hr := Lib.hid hr
  have hT0 : lyT true N k = [45] ++ lyB S k := by rw [lyT, lyS_pos h0, hS]; rfl
  replace hS := Lib.hid hS
  replace hz := Lib.hid hz
  replace hd := Lib.hid hd
  clear h hzn
  obtain ⟨hc1, hc2⟩ := hc
  obtain ⟨m, hm⟩ : ∃ m : Nat, -((z : Int) + k) = m := ⟨(-((z : Int) + k)).toNat, by omega⟩
  have hB : lyB S k = 48 :: 46 :: (List.replicate m 48 ++ S) := by
    unfold lyB
    rw [hz.out, if_neg (by omega), if_neg (by omega), if_pos ⟨by omega, by omega⟩, hm, Int.toNat_natCast]
  obtain ⟨o1, e1, i1, z1, y1⟩ := rcat [45] [48, 46] ⟨#[45]⟩ ⟨#[48, 46]⟩ rfl rfl 3 (by decide)
  have hfin : ∀ Z, Z = List.replicate m 48 → lyT true N k = o1 ++ Z ++ S := by
    intro Z hZ
    rw [hT0, hB, i1.out, hZ]
    simp
  replace hfin := Lib.hid hfin
  have hp1 : ¬ 21 < (z : Int) + k := by omega
  have hp2 : ¬ (z : Int) + k < -5 := by omega
  clear hB hT0
  go_enter Tryz.func13, Tryz.ntmps13
  go_wp2_with fail
  refine hr.out.mono ?_
  rintro e w1 ⟨rfl, hb⟩
  have hbw := chain hb0 hb
  replace hL := hL.go hb
  clear hb hr
  have q0 := (hL.get (P := pBlk w.heap.size #[.bool true, .slice A n c, .int .i64 k] 25) (by repeat (first | exact List.mem_cons_self | apply List.mem_cons_of_mem))).cell 0 _ rfl
  have q1 := (hL.get (P := pBlk w.heap.size #[.bool true, .slice A n c, .int .i64 k] 25) (by repeat (first | exact List.mem_cons_self | apply List.mem_cons_of_mem))).cell 1 _ rfl
  have q2 := (hL.get (P := pBlk w.heap.size #[.bool true, .slice A n c, .int .i64 k] 25) (by repeat (first | exact List.mem_cons_self | apply List.mem_cons_of_mem))).cell 2 _ rfl
  go_wp2_with fail
  refine (htx.out _ hbw).mono ?_
  rintro e w2 ⟨u, rfl, hb, hdg⟩
  replace hL := hL.go hb
  replace hdg := Lib.hid (hdg _ (Below.refl _ _))
  clear hb htx q0 q1 q2 hbw
  go_wp2_with fail
  refine hdg.out.mono ?_
  rintro e w3 ⟨rfl, hb⟩
  replace hL := hL.go hb
  clear hb hdg
  have q0 := (hL.get (P := pBlk w.heap.size #[.bool true, .slice A n c, .int .i64 k] 25) (by repeat (first | exact List.mem_cons_self | apply List.mem_cons_of_mem))).cell 0 _ rfl
  have q1 := (hL.get (P := pBlk w.heap.size #[.bool true, .slice A n c, .int .i64 k] 25) (by repeat (first | exact List.mem_cons_self | apply List.mem_cons_of_mem))).cell 1 _ rfl
  have q2 := (hL.get (P := pBlk w.heap.size #[.bool true, .slice A n c, .int .i64 k] 25) (by repeat (first | exact List.mem_cons_self | apply List.mem_cons_of_mem))).cell 2 _ rfl
  go_wp2
  go_loopg [4, 7] m (fun g ov iv wr => ∃ i : Nat, i + g = m ∧ ov = .string (strL (o1 ++ List.replicate i 48)) ∧ iv = .int .i64 ((z : Int) + k + i) ∧ w3 = wr)
  case atStart => exact ⟨0, by omega, by simp, by simp, rfl⟩
  case round =>
    obtain ⟨i, hig, rfl, rfl, rfl⟩ := hrel
    by_cases hk0 : gk = 0
    · obtain rfl : m = i := by omega
      have hx : ¬ (z : Int) + k + (m : Int) < 0 := by omega
      have hf := hfin.out _ rfl
      obtain ⟨o2, ho2⟩ : ∃ x, o1 ++ List.replicate m 48 = x := ⟨_, rfl⟩
      have hol : o2.length ≤ 20 := by rw [← ho2, List.length_append, List.length_replicate]; omega
      rw [ho2] at hf ⊢
      have hzo := strL_size o2
      obtain ⟨o3, e3, i3, z3, y3⟩ := lcat_l o2 S (strL S) rfl 2030 (by have := hz.out; omega)
      rw [← i3.out] at hf
      replace hf := Lib.hid hf
      clear ho2
      go_wp2
      go_ret
      refine ⟨?_, hL.below⟩
      rw [hf.out]
      rfl
    · have hx : (z : Int) + k + (i : Int) < 0 := by omega
      obtain ⟨o2, ho2⟩ : ∃ x, o1 ++ List.replicate i 48 = x := ⟨_, rfl⟩
      have hol : o2.length ≤ 20 := by rw [← ho2, List.length_append, List.length_replicate]; omega
      rw [ho2]
      have hzo := strL_size o2
      obtain ⟨o3, e3, i3, z3, y3⟩ := lcat_l o2 [48] ⟨#[48]⟩ rfl 30 (by simp; omega)
      have hn : o3 = o1 ++ List.replicate (i + 1) 48 := by rw [i3.out, ← ho2, List.replicate_succ', List.append_assoc]
      replace hn := Lib.hid hn
      clear hL ho2 i3
      go_wp2
      go_roundg (gk - 1)
      case measure => omega
      case rel => exact ⟨i + 1, by omega, by rw [hn.out], by first | (congr 1; omega) | (simp; omega), rfl⟩
set_option maxRecDepth 100000 in
set_option maxHeartbeats 2000000 in
theorem rwide_n {w : World} {v : Value} {N : Nat} (k : Int) (h : IsT w v 128 N) (hd : DRight N k) (h0 : 0 < N) (hc : 1 ≤ ((Lib.decDigits N).length : Int) + k ∧ ((Lib.decDigits N).length : Int) + k ≤ 21) :
    Calls Tryz.prog 13 #[.agg #[.bool true, v, .int .i64 k]] w fun e w' => e = .returned (.string (strL (lyT true N k))) ∧ Below w.heap.size w w' := by
  have hb0 := (Below.refl w.heap.size w).alloc (Nat.le_refl _) (.cells #[.bool true, v, .int .i64 k] 25)
  have hr := rright_t true k (h.below hb0)
  rw [decide_eq_true hd] at hr
  obtain ⟨A, c, zs, rfl, -⟩ := id h
  obtain ⟨n, hn⟩ : ∃ n, zs.length = n := ⟨_, rfl⟩
  rw [hn] at hr h hb0 ⊢
  clear hn
  have hzn := isT_posU h h0
  have hL := ((LiveP.start w).put (pT_st _ _ _) h |>.go hb0).put (pBlk_st _ _ _) (pBlk_made w #[.bool true, .slice A n c, .int .i64 k] 25)
  have hnb : ((n : Int) == 0) = false := by rw [beq_eq_false_iff_ne]; omega
  obtain ⟨S, hS⟩ : ∃ S, Lib.decDigits N = S := ⟨_, rfl⟩
  rw [hS] at hc
  obtain ⟨z, hz⟩ : ∃ z, S.length = z := ⟨_, rfl⟩
  rw [hz] at hc
  have hz0 : 0 < z := by rw [← hz, ← hS]; exact List.length_pos_iff.2 (dec_ne N)
  have hzz : z ≤ 2000 := by
    rcases hd with ⟨h1, _⟩ | ⟨_, _, h1, _⟩
    · omega
    · rw [hS, hz] at h1; exact h1
  have hk5 : -5000 ≤ k ∧ k ≤ 5000 := by
    rcases hd with ⟨h1, _⟩ | ⟨_, _, _, h1, h2⟩
    · omega
    · exact ⟨h1, h2⟩
  obtain ⟨hk5, hk6⟩ := hk5
  have hsz : (strL S).size = z := by rw [strL_size, hz]
  have htx := rtext_t (IsT.isN h) (by decide)
  rw [hS] at htx
  replace htx := Lib.hid htx
  replace hr := Lib.hid hr
  have hT0 : lyT true N k = [45] ++ lyB S k := by rw [lyT, lyS_pos h0, hS]; rfl
  replace hS := Lib.hid hS
  replace hz := Lib.hid hz
  replace hd := Lib.hid hd
  clear h hzn
  obtain ⟨hc1, hc2⟩ := hc
  obtain ⟨p, hp⟩ : ∃ p : Nat, (z : Int) + k = p := ⟨((z : Int) + k).toNat, by omega⟩
  have hE : lyG S p (max z p) = lyB S k := by
    have := lyG_end (S := S) (k := k) (p := p) (by rw [hz.out]; exact hp) (by omega) (by omega)
    rwa [hz.out] at this
  have hfin : lyT true N k = [45] ++ lyG S p (max z p) := by rw [hT0, hE]
  have hp1 : ¬ 21 < (z : Int) + k := by omega
  have hp2 : ¬ (z : Int) + k < -5 := by omega
  have hp3 : ¬ (z : Int) + k ≤ 0 := by omega
  have hq1 : ¬ 21 < (p : Int) := by omega
  have hq2 : ¬ (p : Int) < -5 := by omega
  have hq3 : ¬ (p : Int) ≤ 0 := by omega
  have hd1 : decide (21 < (p : Int)) = false := decide_eq_false hq1
  have hd2 : decide ((p : Int) < -5) = false := decide_eq_false hq2
  have hd3 : decide ((p : Int) ≤ 0) = false := decide_eq_false hq3
  have hd4 : decide (p = 0) = false := decide_eq_false (by omega)
  obtain ⟨m, hm⟩ : ∃ m, max z p = m := ⟨_, rfl⟩
  rw [hm] at hfin
  rw [hfin]
  clear hE hT0 hfin
  go_enter Tryz.func13, Tryz.ntmps13
  go_wp2_with fail
  refine hr.out.mono ?_
  rintro e w1 ⟨rfl, hb⟩
  have hbw := chain hb0 hb
  replace hL := hL.go hb
  clear hb hr
  have q0 := (hL.get (P := pBlk w.heap.size #[.bool true, .slice A n c, .int .i64 k] 25) (by repeat (first | exact List.mem_cons_self | apply List.mem_cons_of_mem))).cell 0 _ rfl
  have q1 := (hL.get (P := pBlk w.heap.size #[.bool true, .slice A n c, .int .i64 k] 25) (by repeat (first | exact List.mem_cons_self | apply List.mem_cons_of_mem))).cell 1 _ rfl
  have q2 := (hL.get (P := pBlk w.heap.size #[.bool true, .slice A n c, .int .i64 k] 25) (by repeat (first | exact List.mem_cons_self | apply List.mem_cons_of_mem))).cell 2 _ rfl
  go_wp2_with fail
  refine (htx.out _ hbw).mono ?_
  rintro e w2 ⟨u, rfl, hb, hdg⟩
  replace hL := hL.go hb
  replace hdg := Lib.hid (hdg _ (Below.refl _ _))
  clear hb htx q0 q1 q2 hbw
  go_wp2_with fail
  refine hdg.out.mono ?_
  rintro e w3 ⟨rfl, hb⟩
  replace hL := hL.go hb
  clear hb hdg
  have q0 := (hL.get (P := pBlk w.heap.size #[.bool true, .slice A n c, .int .i64 k] 25) (by repeat (first | exact List.mem_cons_self | apply List.mem_cons_of_mem))).cell 0 _ rfl
  have q1 := (hL.get (P := pBlk w.heap.size #[.bool true, .slice A n c, .int .i64 k] 25) (by repeat (first | exact List.mem_cons_self | apply List.mem_cons_of_mem))).cell 1 _ rfl
  have q2 := (hL.get (P := pBlk w.heap.size #[.bool true, .slice A n c, .int .i64 k] 25) (by repeat (first | exact List.mem_cons_self | apply List.mem_cons_of_mem))).cell 2 _ rfl
  go_wp2
  go_loopg [4, 8] m (fun g ov iv wr => ∃ i : Nat, i + g = m ∧ ov = .string (strL ([45] ++ lyG S p i)) ∧ iv = .int .i64 i ∧ w3 = wr)
  case atStart => exact ⟨0, by omega, by rw [lyG_start]; rfl, rfl, rfl⟩
  case round =>
    obtain ⟨i, hig, rfl, rfl, rfl⟩ := hrel
    have hol : ([45] ++ lyG S p i).length ≤ 5000 := by
      have := lyG_len S p i
      rw [hz.out] at this
      have hg : ([45] : List UInt8).length ≤ 1 := by decide
      rw [List.length_append]
      omega
    by_cases hk0 : gk = 0
    · obtain rfl : m = i := by omega
      have hx1 : ¬ (m : Int) < z := by omega
      have hx2 : ¬ (m : Int) < p := by omega
      clear hol
      go_wp2
      go_ret
      exact ⟨rfl, hL.below⟩
    · obtain ⟨o, ho⟩ : ∃ x, [45] ++ lyG S p i = x := ⟨_, rfl⟩
      rw [ho] at hol ⊢
      have hzo := strL_size o
      by_cases hiz : i < z
      · have hx1 : (i : Int) < z := by omega
        have hst := lyG_dig (S := S) (p := p) (i := i) (by rw [hz.out]; exact hiz)
        have hsl : ∀ w, (Instr.slice 9 (.string (strL S)) (some (.int .i64 i)) (some (.int .i64 (i + 1))) none).run Tryz.prog w = .ok (.string (strL [S.getD i 0])) w := fun w => slice_one S i (by rw [hz.out]; exact hiz) w
        obtain ⟨x, hx⟩ : ∃ x, S.getD i 0 = x := ⟨_, rfl⟩
        rw [hx] at hst hsl
        have hzx : (strL [x]).size = 1 := strL_size [x]
        by_cases hip : i = p
        · rw [if_pos hip] at hst
          have hb1 : ((i : Int) == (p : Int)) = true := by rw [beq_iff_eq]; omega
          obtain ⟨o1, e1, i1, z1, y1⟩ := lcat_l o [46] ⟨#[46]⟩ rfl 6000 (by simp; omega)
          obtain ⟨o2, e2, i2, z2, y2⟩ := lcat_l o1 [x] (strL [x]) rfl 7000 (by simp; omega)
          have hn : [45] ++ lyG S p (i + 1) = o2 := by rw [hst, i2.out, i1.out, ← ho]; simp
          replace hn := Lib.hid hn
          replace hip := Lib.hid hip
          clear hL ho hst hx i1 i2
          go_wp2
          go_roundg (gk - 1)
          case measure => omega
          case rel => exact ⟨i + 1, by omega, by rw [hn.out], by simp, rfl⟩
        · rw [if_neg hip] at hst
          have hb1 : ((i : Int) == (p : Int)) = false := by rw [beq_eq_false_iff_ne]; omega
          obtain ⟨o2, e2, i2, z2, y2⟩ := lcat_l o [x] (strL [x]) rfl 7000 (by simp; omega)
          have hn : [45] ++ lyG S p (i + 1) = o2 := by rw [hst, i2.out, ← ho]; simp
          replace hn := Lib.hid hn
          replace hip := Lib.hid hip
          clear hL ho hst hx i2
          go_wp2
          go_roundg (gk - 1)
          case measure => omega
          case rel => exact ⟨i + 1, by omega, by rw [hn.out], by simp, rfl⟩
      · have hx1 : ¬ (i : Int) < z := by omega
        have hx2 : (i : Int) < p := by omega
        have hst := lyG_zero (S := S) (p := p) (i := i) (by rw [hz.out]; omega) (by omega)
        have hb1 : ((i : Int) == (p : Int)) = false := by rw [beq_eq_false_iff_ne]; omega
        obtain ⟨o2, e2, i2, z2, y2⟩ := lcat_l o [48] ⟨#[48]⟩ rfl 7000 (by simp; omega)
        have hn : [45] ++ lyG S p (i + 1) = o2 := by rw [hst, i2.out, ← ho]; simp
        replace hn := Lib.hid hn
        clear hL ho hst i2
        go_wp2
        go_roundg (gk - 1)
        case measure => omega
        case rel => exact ⟨i + 1, by omega, by rw [hn.out], by simp, rfl⟩
/-- The document's Layout, of digits that are not right. -/
theorem rlayout_un {w : World} {A : Option Addr} {n c : Nat} (neg : Bool) (k : Int) (hr : ∀ W, Below w.heap.size w W → Calls Tryz.prog 11 #[.agg #[.bool neg, .slice A n c, .int .i64 k]] W fun e w' => e = .returned (.bool false) ∧ Below W.heap.size W w') :
    Calls Tryz.prog 13 #[.agg #[.bool neg, .slice A n c, .int .i64 k]] w fun e w' => e = .returned (.string (strL [])) ∧ Below w.heap.size w w' := by
  have hb0 := (Below.refl w.heap.size w).alloc (Nat.le_refl _) (.cells #[.bool neg, .slice A n c, .int .i64 k] 25)
  replace hr := Lib.hid (hr _ hb0)
  go_enter Tryz.func13, Tryz.ntmps13
  go_wp2_with fail
  refine hr.out.mono ?_
  rintro e w1 ⟨rfl, hb1⟩
  go_wp2
  go_ret
  exact ⟨rfl, chain hb0 hb1⟩
set_option maxRecDepth 100000 in
set_option maxHeartbeats 1000000 in
theorem rzero_p {w : World} {v : Value} (h : IsT w v 128 0) :
    Calls Tryz.prog 13 #[.agg #[.bool false, v, .int .i64 0]] w fun e w' => e = .returned (.string (strL (lyT false 0 0))) ∧ Below w.heap.size w w' := by
  have hb0 := (Below.refl w.heap.size w).alloc (Nat.le_refl _) (.cells #[.bool false, v, .int .i64 0] 25)
  have hr := rright_t false 0 (h.below hb0)
  rw [decide_eq_true (show DRight 0 0 from .inl ⟨rfl, rfl⟩)] at hr
  obtain ⟨A, c, rfl⟩ := isT_zero h
  have hL := (LiveP.start w |>.go hb0).put (pBlk_st _ _ _) (pBlk_made w #[.bool false, .slice A 0 c, .int .i64 0] 25)
  replace hr := Lib.hid hr
  have ht : lyT false 0 0 = [] ++ [48] := by decide +kernel
  rw [ht]
  clear hb0 h ht
  go_enter Tryz.func13, Tryz.ntmps13
  go_wp2_with fail
  refine hr.out.mono ?_
  rintro e w1 ⟨rfl, hb⟩
  replace hL := hL.go hb
  clear hb hr
  have q0 := (hL.get (P := pBlk w.heap.size #[.bool false, .slice A 0 c, .int .i64 0] 25) (by repeat (first | exact List.mem_cons_self | apply List.mem_cons_of_mem))).cell 0 _ rfl
  have q1 := (hL.get (P := pBlk w.heap.size #[.bool false, .slice A 0 c, .int .i64 0] 25) (by repeat (first | exact List.mem_cons_self | apply List.mem_cons_of_mem))).cell 1 _ rfl
  have q2 := (hL.get (P := pBlk w.heap.size #[.bool false, .slice A 0 c, .int .i64 0] 25) (by repeat (first | exact List.mem_cons_self | apply List.mem_cons_of_mem))).cell 2 _ rfl
  go_wp2
  go_ret
  exact ⟨rfl, hL.below⟩
set_option maxRecDepth 100000 in
set_option maxHeartbeats 1000000 in
theorem rzero_n {w : World} {v : Value} (h : IsT w v 128 0) :
    Calls Tryz.prog 13 #[.agg #[.bool true, v, .int .i64 0]] w fun e w' => e = .returned (.string (strL (lyT true 0 0))) ∧ Below w.heap.size w w' := by
  have hb0 := (Below.refl w.heap.size w).alloc (Nat.le_refl _) (.cells #[.bool true, v, .int .i64 0] 25)
  have hr := rright_t true 0 (h.below hb0)
  rw [decide_eq_true (show DRight 0 0 from .inl ⟨rfl, rfl⟩)] at hr
  obtain ⟨A, c, rfl⟩ := isT_zero h
  have hL := (LiveP.start w |>.go hb0).put (pBlk_st _ _ _) (pBlk_made w #[.bool true, .slice A 0 c, .int .i64 0] 25)
  replace hr := Lib.hid hr
  have ht : lyT true 0 0 = [45] ++ [48] := by decide +kernel
  rw [ht]
  clear hb0 h ht
  go_enter Tryz.func13, Tryz.ntmps13
  go_wp2_with fail
  refine hr.out.mono ?_
  rintro e w1 ⟨rfl, hb⟩
  replace hL := hL.go hb
  clear hb hr
  have q0 := (hL.get (P := pBlk w.heap.size #[.bool true, .slice A 0 c, .int .i64 0] 25) (by repeat (first | exact List.mem_cons_self | apply List.mem_cons_of_mem))).cell 0 _ rfl
  have q1 := (hL.get (P := pBlk w.heap.size #[.bool true, .slice A 0 c, .int .i64 0] 25) (by repeat (first | exact List.mem_cons_self | apply List.mem_cons_of_mem))).cell 1 _ rfl
  have q2 := (hL.get (P := pBlk w.heap.size #[.bool true, .slice A 0 c, .int .i64 0] 25) (by repeat (first | exact List.mem_cons_self | apply List.mem_cons_of_mem))).cell 2 _ rfl
  go_wp2
  go_ret
  exact ⟨rfl, hL.below⟩
theorem rlayout_any {w : World} {v : Value} {N : Nat} (neg : Bool) (k : Int) (h : IsT w v 128 N) :
    Calls Tryz.prog 13 #[.agg #[.bool neg, v, .int .i64 k]] w fun e w' => e = .returned (.string (strL (lyR neg N k))) ∧ Below w.heap.size w w' := by
  by_cases hd : DRight N k
  · have hr : lyR neg N k = lyT neg N k := by unfold lyR; rw [if_pos hd]
    rw [hr]
    rcases Nat.eq_zero_or_pos N with h0 | h0
    · subst h0
      obtain rfl : k = 0 := by
        rcases hd with ⟨_, h⟩ | ⟨h, _⟩
        · exact h
        · omega
      cases neg
      · exact rzero_p h
      · exact rzero_n h
    · obtain ⟨z, hz⟩ : ∃ z, (Lib.decDigits N).length = z := ⟨_, rfl⟩
      have hz0 : 0 < z := by rw [← hz]; exact List.length_pos_iff.2 (dec_ne N)
      by_cases c1 : 21 < (z : Int) + k ∨ (z : Int) + k < -5
      · by_cases c2 : z = 1
        · cases neg
          · exact rfar1_p k h hd h0 (by rw [hz]; exact ⟨c1, c2⟩)
          · exact rfar1_n k h hd h0 (by rw [hz]; exact ⟨c1, c2⟩)
        · cases neg
          · exact rfar2_p k h hd h0 (by rw [hz]; exact ⟨c1, by omega⟩)
          · exact rfar2_n k h hd h0 (by rw [hz]; exact ⟨c1, by omega⟩)
      · by_cases c3 : (z : Int) + k ≤ 0
        · cases neg
          · exact rmid_p k h hd h0 (by rw [hz]; exact ⟨by omega, c3⟩)
          · exact rmid_n k h hd h0 (by rw [hz]; exact ⟨by omega, c3⟩)
        · cases neg
          · exact rwide_p k h hd h0 (by rw [hz]; exact ⟨by omega, by omega⟩)
          · exact rwide_n k h hd h0 (by rw [hz]; exact ⟨by omega, by omega⟩)
  · have hr : lyR neg N k = [] := by unfold lyR; rw [if_neg hd]
    rw [hr]
    obtain ⟨A, c, zs, rfl, -⟩ := id h
    refine rlayout_un neg k fun W hb => ?_
    have := rright_t neg k (h.below hb)
    rw [decide_eq_false hd] at this
    exact this
end Go.Proofs.YtjhdkdfiadlmcaaGreatDoor
namespace Go.Proofs.YtjhdkdfiadlmcaaGreatDoor
open Go.RowKit Go.Cal
/-- What the program and the document's answer tell of digits: the same. -/
def All4 (w : World) (D : Value) (b : Bool) (T : List UInt8) : Prop := ∀ W, Below w.heap.size w W →
  (Calls Tryz.prog 10 #[D] W fun e w' => e = .returned (.bool b) ∧ Below W.heap.size W w') ∧ (Calls Tryz.prog 11 #[D] W fun e w' => e = .returned (.bool b) ∧ Below W.heap.size W w') ∧
  (Calls Tryz.prog 12 #[D] W fun e w' => e = .returned (.string (strL T)) ∧ Below W.heap.size W w') ∧ (Calls Tryz.prog 13 #[D] W fun e w' => e = .returned (.string (strL T)) ∧ Below W.heap.size W w')
theorem all4_no {w : World} {A : Option Addr} {n c : Nat} (neg : Bool) (k : Int) (h1 : ∀ W, Below w.heap.size w W → Calls Tryz.prog 10 #[.agg #[.bool neg, .slice A n c, .int .i64 k]] W fun e w' => e = .returned (.bool false) ∧ Below W.heap.size W w')
    (h2 : ∀ W, Below w.heap.size w W → Calls Tryz.prog 11 #[.agg #[.bool neg, .slice A n c, .int .i64 k]] W fun e w' => e = .returned (.bool false) ∧ Below W.heap.size W w') : All4 w (.agg #[.bool neg, .slice A n c, .int .i64 k]) false [] := fun W hb =>
  ⟨h1 W hb, h2 W hb, layout_un neg k fun W' hb' => h1 W' (chain hb hb'), rlayout_un neg k fun W' hb' => h2 W' (chain hb hb')⟩
theorem dig_all {w : World} {v : Value} (neg : Bool) (k : Int) (hT : Tab10 w) (ha : ArgN w v) : ∃ A n c, v = .slice A n c ∧ ∃ b T, All4 w (.agg #[.bool neg, .slice A n c, .int .i64 k]) b T := by
  obtain ⟨A, c, xs, rfl, rd, _, hc, hcm, hd⟩ := ha
  refine ⟨A, xs.length, c, rfl, ?_⟩
  by_cases hl : 128 < xs.length
  · exact ⟨_, _, all4_no neg k (fun W _ => right_long neg k hl) fun W _ => rright_long neg k hl⟩
  · by_cases hz : ∃ h : xs ≠ [], xs.getLast h = 0
    · obtain ⟨h0, hz⟩ := hz
      have hpos := List.length_pos_iff.2 h0
      obtain ⟨b, off, rfl, hbB, hcell⟩ := rd.at (i := 0) hpos
      have hx := hcell (xs.length - 1) (by omega)
      have hxv : xs.getD (xs.length - 1) 0 = xs.getLast h0 := by
        rw [List.getLast_eq_getElem, List.getD_eq_getElem?_getD, List.getElem?_eq_getElem (by omega)]
        rfl
      rw [hxv, hz] at hx
      refine ⟨_, _, all4_no neg k (fun W hb => right_low neg k ⟨hpos, by omega⟩ (Nat.lt_of_lt_of_le hbB hb.size) ((hb.cell (p := ⟨b, _, none⟩) hbB).trans hx)) fun W hb => rright_low neg k ⟨hpos, by omega⟩ (Nat.lt_of_lt_of_le hbB hb.size) ((hb.cell (p := ⟨b, _, none⟩) hbB).trans hx)⟩
    · have ht : Top xs := fun h e => hz ⟨h, e⟩
      have hN : IsT w (.slice A xs.length c) 128 (vl 18446744073709551616 xs) := ⟨A, c, xs, rfl, rd, hc, hcm, by omega, ⟨hd, ht, rfl⟩⟩
      exact ⟨_, _, fun W hb => ⟨right_t neg k (hT.below hb) (hN.below hb), rright_t neg k (hN.below hb), layout_any neg k (hT.below hb) (hN.below hb), rlayout_any neg k (hN.below hb)⟩⟩
section
variable {w W W' : World} {A : Option Addr} {n c : Nat} {neg : Bool} {k : Int}
theorem heldT (h : Below w.heap.size w W ∧ (W).cell? ⟨w.heap.size, 0, none⟩ = some (.bool neg) ∧ (W).cell? ⟨w.heap.size, 1, none⟩ = some (.slice A n c) ∧ (W).cell? ⟨w.heap.size, 2, none⟩ = some (.int .i64 k)) : Below w.heap.size w W := h.1
theorem tell1 {b : Bool} {T : List UInt8} (hall : All4 w (.agg #[.bool neg, .slice A n c, .int .i64 k]) b T) (h : Below w.heap.size w W ∧ (W).cell? ⟨w.heap.size, 0, none⟩ = some (.bool neg) ∧ (W).cell? ⟨w.heap.size, 1, none⟩ = some (.slice A n c) ∧ (W).cell? ⟨w.heap.size, 2, none⟩ = some (.int .i64 k)) : Calls Tryz.prog 10 #[.agg #[.bool neg, .slice A n c, .int .i64 k]] W fun e w' => e = .returned (.bool b) ∧ Below W.heap.size W w' := (hall W h.1).1
theorem tell2 {b : Bool} {T : List UInt8} (hall : All4 w (.agg #[.bool neg, .slice A n c, .int .i64 k]) b T) (h : Below w.heap.size w W ∧ (W).cell? ⟨w.heap.size, 0, none⟩ = some (.bool neg) ∧ (W).cell? ⟨w.heap.size, 1, none⟩ = some (.slice A n c) ∧ (W).cell? ⟨w.heap.size, 2, none⟩ = some (.int .i64 k)) : Calls Tryz.prog 11 #[.agg #[.bool neg, .slice A n c, .int .i64 k]] W fun e w' => e = .returned (.bool b) ∧ Below W.heap.size W w' := (hall W h.1).2.1
theorem tell3 {b : Bool} {T : List UInt8} (hall : All4 w (.agg #[.bool neg, .slice A n c, .int .i64 k]) b T) (h : Below w.heap.size w W ∧ (W).cell? ⟨w.heap.size, 0, none⟩ = some (.bool neg) ∧ (W).cell? ⟨w.heap.size, 1, none⟩ = some (.slice A n c) ∧ (W).cell? ⟨w.heap.size, 2, none⟩ = some (.int .i64 k)) : Calls Tryz.prog 12 #[.agg #[.bool neg, .slice A n c, .int .i64 k]] W fun e w' => e = .returned (.string (strL T)) ∧ Below W.heap.size W w' := (hall W h.1).2.2.1
theorem tell4 {b : Bool} {T : List UInt8} (hall : All4 w (.agg #[.bool neg, .slice A n c, .int .i64 k]) b T) (h : Below w.heap.size w W ∧ (W).cell? ⟨w.heap.size, 0, none⟩ = some (.bool neg) ∧ (W).cell? ⟨w.heap.size, 1, none⟩ = some (.slice A n c) ∧ (W).cell? ⟨w.heap.size, 2, none⟩ = some (.int .i64 k)) : Calls Tryz.prog 13 #[.agg #[.bool neg, .slice A n c, .int .i64 k]] W fun e w' => e = .returned (.string (strL T)) ∧ Below W.heap.size W w' := (hall W h.1).2.2.2
theorem keepT (h : Below w.heap.size w W ∧ (W).cell? ⟨w.heap.size, 0, none⟩ = some (.bool neg) ∧ (W).cell? ⟨w.heap.size, 1, none⟩ = some (.slice A n c) ∧ (W).cell? ⟨w.heap.size, 2, none⟩ = some (.int .i64 k)) (hb : Below W.heap.size W W') : Below w.heap.size w W' ∧ (W').cell? ⟨w.heap.size, 0, none⟩ = some (.bool neg) ∧ (W').cell? ⟨w.heap.size, 1, none⟩ = some (.slice A n c) ∧ (W').cell? ⟨w.heap.size, 2, none⟩ = some (.int .i64 k) := by
  obtain ⟨h0, h1, h2, h3⟩ := h
  have hl := cell_lt h1
  exact ⟨chain h0 hb, (hb.cell (p := ⟨w.heap.size, 0, none⟩) hl).trans h1, (hb.cell (p := ⟨w.heap.size, 1, none⟩) hl).trans h2, (hb.cell (p := ⟨w.heap.size, 2, none⟩) hl).trans h3⟩
end
set_option maxRecDepth 100000 in
set_option maxHeartbeats 2000000 in
theorem layoutTells_any (v : Value) (neg : Bool) (k : Int) (w : World) (hW : LyW w) (ha : ArgN w v) (_ : -9223372036854775808 ≤ k ∧ k ≤ 9223372036854775807) :
    Calls Tryz.prog 3 #[.agg #[.bool neg, v, .int .i64 k]] w fun e w' => e = .returned (.bool true) ∧ Below w.heap.size w w' := by
  obtain ⟨A, n, c, rfl, b, T, hall⟩ := dig_all neg k hW.tab ha
  clear ha
  replace hall := Lib.hid hall
  have hb0 := (Below.refl w.heap.size w).alloc (Nat.le_refl _) (.cells #[.bool neg, .slice A n c, .int .i64 k] 25)
  have hL := ((LiveP.start w).go hb0).put (pBlk_st _ _ _) (pBlk_made w #[.bool neg, .slice A n c, .int .i64 k] 25)
  clear hb0
  go_enter Tryz.func3, Tryz.ntmps3
  go_wp2_with fail
  refine (lshown_any _ (hW.below hL.below)).mono ?_
  rintro e v1 ⟨rfl, hb⟩
  replace hL := hL.go hb
  clear hb
  have p0 := hL.get (P := pBlk w.heap.size #[.bool neg, .slice A n c, .int .i64 k] 25) (by repeat (first | exact List.mem_cons_self | apply List.mem_cons_of_mem))
  have hS0 : Below w.heap.size w v1.drew ∧ (v1.drew).cell? ⟨w.heap.size, 0, none⟩ = some (.bool neg) ∧ (v1.drew).cell? ⟨w.heap.size, 1, none⟩ = some (.slice A n c) ∧ (v1.drew).cell? ⟨w.heap.size, 2, none⟩ = some (.int .i64 k) := ⟨hL.below.drew, p0.cell 0 _ rfl, p0.cell 1 _ rfl, p0.cell 2 _ rfl⟩
  clear p0 hL hW
  go_wp2_with fail
  go_region_held3 (fun w' => Below w.heap.size w w' ∧ (w').cell? ⟨w.heap.size, 0, none⟩ = some (.bool neg) ∧ (w').cell? ⟨w.heap.size, 1, none⟩ = some (.slice A n c) ∧ (w').cell? ⟨w.heap.size, 2, none⟩ = some (.int .i64 k)) (first | exact hS0 | with_reducible assumption | exact keepT (by with_reducible assumption) (by with_reducible assumption))
    (first
      | (go_at_call 10; with_reducible refine (tell1 hall.out (by with_reducible assumption)).mono ?_; rintro e w4 ⟨rfl, hb4⟩)
      | (go_at_call 11; with_reducible refine (tell2 hall.out (by with_reducible assumption)).mono ?_; rintro e w5 ⟨rfl, hb5⟩)
      | (go_at_call 12; with_reducible refine (tell3 hall.out (by with_reducible assumption)).mono ?_; rintro e w6 ⟨rfl, hb6⟩)
      | (go_at_call 13; with_reducible refine (tell4 hall.out (by with_reducible assumption)).mono ?_; rintro e w7 ⟨rfl, hb7⟩))
  all_goals
    go_wp2
    go_ret
    first
      | exact ⟨rfl, (show Below w.heap.size w w7 ∧ (w7).cell? ⟨w.heap.size, 0, none⟩ = some (.bool neg) ∧ (w7).cell? ⟨w.heap.size, 1, none⟩ = some (.slice A n c) ∧ (w7).cell? ⟨w.heap.size, 2, none⟩ = some (.int .i64 k) by with_reducible assumption).1⟩
      | exact ⟨rfl, chain (show Below w.heap.size w w6 ∧ (w6).cell? ⟨w.heap.size, 0, none⟩ = some (.bool neg) ∧ (w6).cell? ⟨w.heap.size, 1, none⟩ = some (.slice A n c) ∧ (w6).cell? ⟨w.heap.size, 2, none⟩ = some (.int .i64 k) by with_reducible assumption).1 hb7⟩
end Go.Proofs.YtjhdkdfiadlmcaaGreatDoor
namespace Go.Proofs.YtjhdkdfiadlmcaaGreatDoor
open Go.ChangeShapes Go.WideShapes Go.ChangeAt Go.RowKit Go.Cal
set_option maxRecDepth 100000 in
theorem layoutTells_lifted (os : Os) (started : os.Started) (H : Type) (enc : TypeId × Value → H) :
    ReturnsInHanded {} Tryz.checked os 3 .any (fun w args => (Rows.layoutTellsSpec.pre enc Tryz.prog Tryz.f3 [] false w args ∧ laidMetH Tryz.prog Rows.layoutTellsRow.laid w) ∧ sizedMet enc Tryz.prog Tryz.f3 (OpenSpec.ofChange Rows.layoutTellsSpec) false w args)
      (Rows.layoutTellsSpec.post enc Tryz.prog Tryz.f3 false true false false) := by
  refine returnsInHanded_of_change_and_sh (C := Tryz.checked) (X := fun w _ => laidMetH Tryz.prog Rows.layoutTellsRow.laid w) (fun _ _ _ hh h => h.of_heap hh) own started (by kernel_rfl) Tryz.func3
    (ChangeSpec.witness_shaped (enc := enc) (C := Tryz.checked) (os := os) (X := fun w _ => laidMetH Tryz.prog Rows.layoutTellsRow.laid w) false (World.laidAll Tryz.prog os Rows.layoutTellsRow.laid) #[.agg #[.bool false, .slice none 0 0, .int .i64 0]] 8 (World.laidAll_os _ _ _)
      (World.shaped_of_ZipB (by kernel_rfl) (by kernel_rfl)) (by kernel_rfl) (by kernel_rfl) (by kernel_rfl)
      (by rw [MakeChecks.laidMetH_plain _ _ _ (by kernel_rfl)]; exact laidMet_laidAll _ (by kernel_rfl) (by kernel_rfl))) ?_
  intro W base args ds gs before hval0 hW hL hsh
  have hval : ∀ (j : Nat) t v, Tryz.f3.params[j]? = some t → args[j]? = some v → Value.okWide Tryz.prog W .any base t v := hval0
  have hW' := hW
  obtain ⟨p, q, hA0, hV, rfl, hfz, hnd⟩ := hW
  have hA : DataW.TrodAll enc Tryz.prog W 0 (fun _ => true) true Tryz.f3.params.toList args.toList ds p := hA0
  rw [Tryz.params3] at hA hval
  obtain ⟨v0, d0, rfl, rfl, h0⟩ := trodAll_one hA
  obtain ⟨rfl, rfl⟩ := trodVars_none hV
  have hlt := fun x hx => hW'.lt x hx
  simp only [List.append_nil] at hlt
  have hl0 : ∀ x ∈ p, x.block < W.heap.size := fun x hx => hlt x (by first | exact hx | simp [hx])
  obtain ⟨n0, u0, k0, rfl, ha0, kb0, kc0⟩ := argD_of (hval 0 25 v0 rfl rfl) h0 hl0
  have hT : LyW W := lyW_of_laid (laid := Rows.layoutTellsRow.laid) (by rw [MakeChecks.laidMetH_plain _ _ _ (by kernel_rfl)] at hL; exact hL) hsh (by dsimp only [Rows.layoutTellsRow]; repeat (first | exact List.mem_cons_self | apply List.mem_cons_of_mem)) (by dsimp only [Rows.layoutTellsRow]; repeat (first | exact List.mem_cons_self | apply List.mem_cons_of_mem)) (by dsimp only [Rows.layoutTellsRow]; repeat (first | exact List.mem_cons_self | apply List.mem_cons_of_mem))
  clear hA0 hval0
  simp only [List.append_nil] at hW'
  refine (layoutTells_any u0 n0 k0 W hT ha0 ⟨kb0, kc0⟩).mono fun e W' ⟨he, hw⟩ => ?_
  subst he
  exact ⟨_, rfl, _, _, _, [], _, [], hW', trodAll_mk1 (shut_bool Tryz.underlying4 _), trodAll_mk1 (Below.trod laid_out (by kernel_rfl) (of_decide_eq_true (by kernel_rfl)) h0 hw hl0), rfl, hw.frame _, fun h => by cases h⟩
theorem layoutTells_said : Rows.LayoutTellsSaid :=
  OpenClaim.holds_of_wide 3 Tryz.f3 rfl rfl rfl rfl rfl rfl rfl ⟨rfl, rfl, rfl, rfl, rfl⟩ rfl rfl rfl rfl rfl (by kernel_rfl) Tryz.func3 (by kernel_rfl)
    (of_decide_eq_true (by kernel_rfl)) (by unfold Func.isWrapper; first | (rw [if_pos (by decide +kernel)]; kernel_rfl) | (rw [if_neg (by decide +kernel)]; exact ⟨rfl, rfl⟩))
    (fun os started H enc _ => layoutTells_lifted os started H enc)
theorem layoutTells_plain (f : FuncId) (fn : Func) (hf : Tryz.pinned.checked.prog.funcNamed "caliper/caliperlaw12.LayoutTells" = some f) (hfn : Tryz.pinned.checked.prog.funcs[f]? = some fn) :
    true = Tryz.pinned.checked.prog.looks [] ∧ ∀ (j : Nat) t, fn.params[j]? = some t → Tryz.pinned.checked.prog.wantsStandIn t = false := by
  obtain rfl : f = 3 := Option.some.inj ((show Tryz.prog.funcNamed "caliper/caliperlaw12.LayoutTells" = some 3 by kernel_rfl).symm.trans hf) |>.symm
  obtain rfl : fn = Tryz.f3 := (Option.some.inj (Tryz.func3.symm.trans hfn)).symm
  refine ⟨by kernel_rfl, fun j t ht => ?_⟩
  rw [Tryz.params3] at ht
  have hm : t ∈ [25] := by simpa using Array.mem_of_getElem? ht
  have hall : ([25].all fun u => !Tryz.prog.wantsStandIn u) = true := by kernel_rfl
  exact (show Tryz.prog.wantsStandIn t = false by simpa using List.all_eq_true.1 hall t hm)
theorem layoutTells_card : Rows.LayoutTellsCardSaid :=
  Claim7.holds_tied_plain_at .later [] _ _ _ _ layoutTells_said (fun _ h => by cases h) (by kernel_rfl) (fun _ h => by cases h) layoutTells_row_tie rfl ⟨rfl, rfl⟩ (by kernel_rfl) rfl layoutTells_plain (by kernel_rfl)
end Go.Proofs.YtjhdkdfiadlmcaaGreatDoor
