/- Plain numbers for the document's half words. Conditions: none. -/
/- The document's half words, second part: words as half words; sums, differences, order. Conditions: a number's half words are counted. -/
/- The document's half words, third part: sums, differences, order. Conditions: a number's half words are counted. -/
/- Plain numbers for the document's products and shifts of half words. Conditions: none. -/
import Derived.Test.YtabgfdingdmnlaaGreatDoorTells00
import Derived.Test.YtabgfdingdmnlaaGreatDoorTells22
import Derived.Deep.AppendLies
namespace Go.Cal
theorem vl_ext {b : Nat} : ∀ {xs ys : List Nat}, (∀ j, xs.getD j 0 = ys.getD j 0) → vl b xs = vl b ys
  | [], [], _ => rfl
  | [], y :: ys, h => by
    have h0 := h 0
    have ih := vl_ext (b := b) (xs := []) (ys := ys) (fun j => by have := h (j + 1); simpa using this)
    simp at h0
    simp only [vl] at ih ⊢
    rw [← h0, ← ih]; simp
  | x :: xs, [], h => by
    have h0 := h 0
    have ih := vl_ext (b := b) (xs := xs) (ys := []) (fun j => by have := h (j + 1); simpa using this)
    simp at h0
    simp only [vl] at ih ⊢
    rw [h0, ih]; simp
  | x :: xs, y :: ys, h => by
    have h0 := h 0
    have ih := vl_ext (b := b) (xs := xs) (ys := ys) (fun j => by have := h (j + 1); simpa using this)
    simp at h0
    simp only [vl]
    rw [h0, ih]
theorem vl_cut {b : Nat} (xs : List Nat) (m : Nat) : vl b xs = vl b (xs.take m) + b ^ m * (xs.getD m 0 + b * vl b (xs.drop (m + 1))) := by
  rcases Nat.lt_or_ge m xs.length with h | h
  · rw [vl_split xs m (by omega), vl_drop xs m h]
  · rw [List.take_of_length_le h, List.drop_eq_nil_of_le (by omega)]
    simp [List.getD_eq_getElem?_getD, List.getElem?_eq_none h, vl]
theorem take_lt {b : Nat} (hb : 0 < b) {xs : List Nat} (d : Dig b xs) (m : Nat) : vl b (xs.take m) < b ^ m := by
  have h1 := vl_lt (dig_take d m)
  have h2 : b ^ (xs.take m).length ≤ b ^ m := Nat.pow_le_pow_right hb (by rw [List.length_take]; omega)
  omega
/-- The greatest place at which two rows differ decides. -/
theorem lex_lt {b : Nat} (hb : 0 < b) {xs ys : List Nat} {m : Nat} (dx : Dig b xs) (he : ∀ j, m < j → xs.getD j 0 = ys.getD j 0) (h : xs.getD m 0 < ys.getD m 0) : vl b xs < vl b ys := by
  rw [vl_cut xs m, vl_cut ys m]
  have h1 := take_lt hb dx m
  have h2 : vl b (xs.drop (m + 1)) = vl b (ys.drop (m + 1)) := vl_ext fun j => by
    have := he (m + 1 + j) (by omega)
    simpa [List.getD_eq_getElem?_getD, List.getElem?_drop] using this
  rw [h2]
  generalize vl b (ys.drop (m + 1)) = V
  have h3 : b ^ m * (xs.getD m 0 + b * V + 1) ≤ b ^ m * (ys.getD m 0 + b * V) := Nat.mul_le_mul_left _ (by omega)
  rw [Nat.mul_add (b ^ m) (xs.getD m 0 + b * V) 1, Nat.mul_one] at h3
  omega
/-- Words as half words. -/
def halves (H : Nat) : List Nat → List Nat
  | [] => []
  | x :: l => x % H :: x / H :: halves H l
theorem halves_length (H : Nat) : ∀ l, (halves H l).length = 2 * l.length
  | [] => rfl
  | x :: l => by simp [halves, halves_length H l]; omega
theorem halves_snoc (H : Nat) : ∀ l x, halves H (l ++ [x]) = halves H l ++ [x % H, x / H]
  | [], _ => rfl
  | y :: l, x => by simp [halves, halves_snoc H l x]
theorem halves_dig {H : Nat} (hH : 0 < H) : ∀ {l : List Nat}, Dig (H * H) l → Dig H (halves H l)
  | [], _ => fun x hx => by simp [halves] at hx
  | y :: l, h => fun x hx => by
    have hy := h y (by simp)
    simp only [halves, List.mem_cons] at hx
    rcases hx with rfl | rfl | hx
    · exact Nat.mod_lt _ hH
    · exact Nat.div_lt_of_lt_mul hy
    · exact halves_dig hH (fun z hz => h z (by simp [hz])) x hx
theorem halves_val (H : Nat) : ∀ l, vl H (halves H l) = vl (H * H) l
  | [] => rfl
  | x :: l => by
    simp only [halves, vl, halves_val H l]
    rw [Nat.mul_add, ← Nat.mul_assoc, ← Nat.add_assoc, Nat.mod_add_div]
theorem take_snoc (xs : List Nat) (i : Nat) (h : i < xs.length) : xs.take (i + 1) = xs.take i ++ [xs.getD i 0] := by
  rw [List.take_succ_eq_append_getElem h, List.getD_eq_getElem?_getD, List.getElem?_eq_getElem h]; rfl
theorem vl_snoc {b : Nat} (L : List Nat) (x : Nat) : vl b (L ++ [x]) = vl b L + b ^ L.length * x := by rw [vl_append]; simp [vl]
/-- The sum, at the head of a round. -/
structure PlusRel (H : Nat) (xs ys L : List Nat) (i c : Nat) : Prop where
  len : L.length = i
  dig : Dig H L
  car : c ≤ 1
  val : vl H L + H ^ i * c = vl H (xs.take i) + vl H (ys.take i)
theorem PlusRel.start (H : Nat) (xs ys : List Nat) : PlusRel H xs ys [] 0 0 := ⟨rfl, fun x hx => by simp at hx, by omega, by simp [vl]⟩
theorem PlusRel.step {H : Nat} {xs ys L : List Nat} {i c x y : Nat} (h : PlusRel H xs ys L i c) (hx : xs.getD i 0 = x) (hy : ys.getD i 0 = y) (bx : x < H) (by' : y < H) :
    PlusRel H xs ys (L ++ [(x + y + c) % H]) (i + 1) ((x + y + c) / H) := by
  have hH : 0 < H := by omega
  have hc := h.car
  refine ⟨by simp [h.len], dig_append h.dig (fun z hz => by simp at hz; subst hz; exact Nat.mod_lt _ hH), ?_, ?_⟩
  · have : (x + y + c) / H < 2 := (Nat.div_lt_iff_lt_mul hH).2 (by omega)
    omega
  · rw [vl_snoc, h.len, vl_getD, vl_getD, hx, hy]
    have := sum_step h.val (show x + y + c = (x + y + c) % H + H * ((x + y + c) / H) by rw [Nat.mod_add_div])
    rw [Nat.pow_succ]
    omega
theorem PlusRel.done {H : Nat} {xs ys L : List Nat} {i : Nat} (h : PlusRel H xs ys L i 0) (h1 : xs.length ≤ i) (h2 : ys.length ≤ i) : vl H L = vl H xs + vl H ys := by
  have := h.val
  rw [vl_take_all _ _ h1, vl_take_all _ _ h2] at this
  omega
/-- The difference, at the head of a round. -/
structure MinusRel (H : Nat) (xs ys L : List Nat) (i c : Nat) : Prop where
  len : L.length = i
  dig : Dig H L
  car : c ≤ 1
  val : vl H L + vl H (ys.take i) = vl H (xs.take i) + H ^ i * c
theorem MinusRel.start (H : Nat) (xs ys : List Nat) : MinusRel H xs ys [] 0 0 := ⟨rfl, fun x hx => by simp at hx, by omega, by simp [vl]⟩
theorem MinusRel.step {H : Nat} {xs ys L : List Nat} {i c x y : Nat} (h : MinusRel H xs ys L i c) (hx : xs.getD i 0 = x) (hy : ys.getD i 0 = y) (bx : x < H) (by' : y < H) :
    MinusRel H xs ys (L ++ [(x + H - y - c) % H]) (i + 1) (1 - (x + H - y - c) / H) := by
  have hH : 0 < H := by omega
  have hc := h.car
  have hq : (x + H - y - c) / H < 2 := (Nat.div_lt_iff_lt_mul hH).2 (by omega)
  have hm := Nat.mod_add_div (x + H - y - c) H
  have hl := Nat.mod_lt (x + H - y - c) hH
  generalize (x + H - y - c) / H = q at *
  generalize (x + H - y - c) % H = s at *
  have hs : s + y + c = x + H * (1 - q) := by
    have : q = 0 ∨ q = 1 := by omega
    rcases this with rfl | rfl
    · simp at hm ⊢; omega
    · simp at hm ⊢; omega
  refine ⟨by simp [h.len], dig_append h.dig (fun z hz => by simp at hz; omega), by omega, ?_⟩
  rw [vl_snoc, h.len, vl_getD, vl_getD, hx, hy]
  have := diff_step h.val hs
  rw [Nat.pow_succ]
  omega
theorem MinusRel.done {H : Nat} {xs ys L : List Nat} {c : Nat} (h : MinusRel H xs ys L xs.length c) (h2 : ys.length ≤ xs.length) (hle : vl H ys ≤ vl H xs) : vl H L = vl H xs - vl H ys := by
  have h3 := h.val
  rw [vl_take_all _ _ (Nat.le_refl _), vl_take_all _ _ h2] at h3
  have h4 := vl_lt h.dig
  rw [h.len] at h4
  have h5 := h.car
  have h6 : c = 0 ∨ c = 1 := by omega
  rcases h6 with rfl | rfl
  · omega
  · rw [Nat.mul_one] at h3
    omega
end Go.Cal
namespace Go.Proofs.YtabgfdingdmnlaaGreatDoor
open Go.RowKit Go.Cal
theorem one_cell (w : World) (t : TypeId) (v : Value) (j : Nat) (u : Value) (hj : [v][j]? = some u) : (w.alloc (.cells #[v] t)).cell? ((⟨w.heap.size, 0, none⟩ : Addr).add j) = some u := by
  rcases j with _ | j
  · simp at hj
    subst hj
    simp [Addr.add_lit]
  · simp at hj
theorem two_cells (w : World) (t : TypeId) (v v2 : Value) (j : Nat) (u : Value) (hj : [v, v2][j]? = some u) : (w.alloc (.cells #[v, v2] t)).cell? ((⟨w.heap.size, 0, none⟩ : Addr).add j) = some u := by
  rcases j with _ | _ | j
  · simp at hj
    subst hj
    simp [Addr.add_lit]
  · simp at hj
    subst hj
    simp [Addr.add_lit]
  · simp at hj
/-- A slice in memory that was not there. -/
def New (w : World) (v : Value) : Prop := ∀ A n c, v = .slice A n c → ∀ a, A = some a → w.heap.size ≤ a.block
/-- A row that the call has made, read. -/
theorem rd_of_own {w : World} {base n : Nat} {v : Value} {xs : List Nat} (h : w.ownsRow base 50 1 v n (lU xs)) (hn : n = xs.length) :
    ∃ A c, v = .slice A xs.length c ∧ RdU w w.heap.size A xs ∧ xs.length ≤ c ∧ c ≤ maxLen ∧ (A = none → c = 0) ∧ (∀ a, A = some a → base ≤ a.block) := by
  subst hn
  obtain ⟨_, ⟨rfl, h1⟩ | ⟨g, cap, cur, rfl, hg, hw, hn, hm, hs, ht⟩⟩ := h
  · obtain rfl := List.eq_nil_of_length_eq_zero h1
    exact ⟨none, 0, rfl, .nil, Nat.le_refl _, by unfold maxLen; omega, fun _ => rfl, fun a e => by cases e⟩
  · have hlt := (Array.getElem?_eq_some_iff.1 hw).1
    refine ⟨_, cap, rfl, ⟨.inr ⟨g, 0, rfl, hlt⟩, fun b off e j hj => ?_⟩, hn, hm, fun e => (by cases e), fun a e => by cases e; exact hg⟩
    injection e with e
    injection e with e1 e2
    subst e1; subst e2
    have e3 : cur.toList[j]? = some (.int .u64 ((xs.getD j 0 : Nat) : Int)) := by
      rw [← lU_at xs j hj, ← ht, List.getElem?_take_of_lt (by omega)]
    simp [World.cell?, hw, ← Array.getElem?_toList, e3]
theorem lU_snoc (xs : List Nat) (x : Nat) : lU xs ++ [.int .u64 (x : Int)] = lU (xs ++ [x]) := by simp [lU]
theorem lU_snoc2 (xs : List Nat) (x y : Nat) : lU xs ++ [.int .u64 (x : Int), .int .u64 (y : Int)] = lU (xs ++ [x, y]) := by simp [lU]
/-- A call tells one number in half words. -/
def TellsH (w : World) (k N : Nat) (e : Ending) (w' : World) : Prop := ∃ v, e = .returned v ∧ pH v k N w' ∧ Below w.heap.size w w' ∧ New w v
/-- The end of a call that hands back what Trim makes of its own row. -/
theorem trim_own {w wr : World} {n k N : Nat} {v : Value} {xs : List Nat} (hown : wr.ownsRow w.heap.size 50 1 v n (lU xs)) (hn : n = xs.length) (hb : Below w.heap.size w wr) (hl : xs.length ≤ 1099511627776) (hd : Dig 4294967296 xs) (hv : vl 4294967296 xs = N) (hk : N < 4294967296 ^ k) :
    Calls Tryz.prog 56 #[v] wr (TellsH w k N) := by
  obtain ⟨A, c, rfl, hr, h1, h2, h3, h4⟩ := rd_of_own hown hn
  refine (rtrim_any c wr hr h1 hl h3).mono ?_
  rintro e w1 ⟨⟨zs, rfl, ⟨m, rfl⟩, ht, hv'⟩, rfl⟩
  have hz : NrmH (xs.take m) N := ⟨dig_take hd m, ht, (hv' _).trans hv⟩
  exact ⟨_, rfl, ⟨A, c, xs.take m, rfl, hr.take m, by rw [List.length_take]; omega, ⟨h2, h3⟩, hz.length_le hk, hz⟩, hb, fun A' n' c' e a ha => by cases e; exact h4 a ha⟩
end Go.Proofs.YtabgfdingdmnlaaGreatDoor
namespace Go.Proofs.YtabgfdingdmnlaaGreatDoor
open Go.RowKit Go.Cal
set_option maxRecDepth 100000 in
set_option maxHeartbeats 2000000 in
theorem plus_any {v1 v2 : Value} {k1 k2 X Y : Nat} (k' : Nat) (w : World) (h1 : IsH w v1 k1 X) (h2 : IsH w v2 k2 Y) (b1 : k1 ≤ 1048576) (b2 : k2 ≤ 1048576) (hk : X + Y < 4294967296 ^ k') : Calls Tryz.prog 54 #[v1, v2] w (TellsH w k' (X + Y)) := by
  obtain ⟨A1, c1, xs, rfl, r1, hc1, hm1, hl1, hx⟩ := h1
  obtain ⟨A2, c2, ys, rfl, r2, hc2, hm2, hl2, hy⟩ := h2
  obtain ⟨i0, hi, hi0, hi1, hi2⟩ := info_parts info_u64
  replace hk := Lib.hid hk
  go_enter Tryz.func54, Tryz.ntmps54
  go_wp2
  obtain ⟨M, hMx, hMy, hMb⟩ : ∃ M, xs.length ≤ M ∧ ys.length ≤ M ∧ M ≤ 1048576 := ⟨max xs.length ys.length, by omega, by omega, by omega⟩
  go_loopg [5, 6, 7] (2 * (M + 1)) (fun k ov cv iv wr => ∃ (i c : Nat) (L : List Nat), iv = .int .i64 i ∧ cv = .int .u64 c ∧ i ≤ M + 1 ∧ (i = M + 1 → c = 0) ∧ k = 2 * (M + 1 - i) + c ∧ wr.ownsRow w.heap.size 50 1 ov i (lU L) ∧ Below w.heap.size w wr ∧ PlusRel 4294967296 xs ys L i c)
  case atStart => exact ⟨0, 0, [], rfl, rfl, by omega, by omega, by omega, World.ownsRow_lit w #[] 0 (Nat.le_refl _) (by unfold maxLen; omega) rfl, (Below.refl _ _).alloc (Nat.le_refl _) _, .start _ xs ys⟩
  case round =>
    obtain ⟨i, c, L, rfl, rfl, hib, hlast, hgk, hown, hbw, hR⟩ := hrel
    have hzw := hbw.size
    have hcar := hR.car
    have hg1 := get_any c1 i wr (r1.below hbw)
    have hg2 := get_any c2 i wr (r2.below hbw)
    obtain ⟨x, hxx⟩ : ∃ x, xs.getD i 0 = x := ⟨_, rfl⟩
    obtain ⟨y, hyy⟩ : ∃ x, ys.getD i 0 = x := ⟨_, rfl⟩
    have bx : x < 4294967296 := hxx ▸ dig_getD (by omega) hx.dig i
    have by' : y < 4294967296 := hyy ▸ dig_getD (by omega) hy.dig i
    rw [hxx] at hg1
    rw [hyy] at hg2
    by_cases hend : xs.length ≤ i ∧ ys.length ≤ i ∧ c = 0
    · obtain ⟨e1, e2, rfl⟩ := hend
      have hv : vl 4294967296 L = X + Y := by rw [hR.done e1 e2, hx.val, hy.val]
      have hLl := hR.len
      have ht := trim_own (k := k') hown hLl.symm hbw (by omega) hR.dig hv hk.out
      have n1 : ¬ (i : Int) < (xs.length : Int) := by omega
      have n2 : ¬ (i : Int) < (ys.length : Int) := by omega
      replace ht := Lib.hid ht
      clear hown hv hR hg1 hg2 hLl hxx hyy hgk hlast
      go_wp2_with fail
      refine ht.out.mono ?_
      rintro e w1 ⟨u, rfl, hu, hb⟩
      go_wp2
      go_ret
      exact ⟨u, rfl, hu, hb⟩
    · have hst := hR.step hxx hyy bx by'
      have hdis : i < xs.length ∨ (¬ i < xs.length ∧ i < ys.length) ∨ (¬ i < xs.length ∧ ¬ i < ys.length ∧ 0 < c) := by omega
      have hiM : i ≤ M := by
        rcases Nat.lt_or_ge i (M + 1) with h | h
        · omega
        · have := hlast (by omega)
          omega
      have hzero : i + 1 = M + 1 → x = 0 ∧ y = 0 := fun e => by
        rw [← hxx, ← hyy]
        simp [List.getD_eq_getElem?_getD, List.getElem?_eq_none (show xs.length ≤ i by omega), List.getElem?_eq_none (show ys.length ≤ i by omega)]
      obtain ⟨S, hS⟩ : ∃ S, x + y + c = S := ⟨_, rfl⟩
      have hSi : (x : Int) + (y : Int) + (c : Int) = (S : Int) := by omega
      have hSb : S < 8589934592 := by omega
      rw [hS] at hst
      obtain ⟨lo, hlo⟩ : ∃ l, S % 4294967296 = l := ⟨_, rfl⟩
      obtain ⟨c', hc'⟩ : ∃ l, S / 4294967296 = l := ⟨_, rfl⟩
      have hloi : (S : Int) % 4294967296 = (lo : Int) := by omega
      have hci : (S : Int) / 4294967296 = (c' : Int) := by omega
      rw [hlo, hc'] at hst
      have hlast' : i + 1 = M + 1 → c' = 0 := fun e => by have := hzero e; omega
      have hdec : 2 * (M + 1 - (i + 1)) + c' < gk := by have := hst.car; omega
      replace hS := Lib.hid hS
      replace hlo := Lib.hid hlo
      replace hc' := Lib.hid hc'
      replace hgk := Lib.hid hgk
      replace hdec := Lib.hid hdec
      replace hg1 := Lib.hid hg1
      replace hg2 := Lib.hid hg2
      replace hxx := Lib.hid hxx
      replace hyy := Lib.hid hyy
      replace hlast' := Lib.hid hlast'
      clear hlast hzero hend hR
      rcases hdis with d | ⟨d, d'⟩ | ⟨d, d', d''⟩
      all_goals
        go_wp2_with fail
        refine hg1.out.mono ?_
        rintro e w' ⟨rfl, rfl⟩
        go_wp2_with fail
        refine hg2.out.mono ?_
        rintro e w' ⟨rfl, rfl⟩
        go_wp2_with (at_builtin; refine wpList_append_own _ rfl _ _ 24 rfl w.heap.size 50 i0 (.int .u64 0) 1 8 under_u64s hi hi0 hi1 hi2 rfl (by decide) u5 i (lU L) rfl (hown.alloc _) ⟨wr.heap.size, 0, none⟩ 1 1 [.int .u64 lo] rfl rfl (one_cell wr 50 _) (fun u hu => by simp at hu; subst hu; rfl) (by unfold maxLen; omega) (by omega) (by simp; omega) ?_)
        intro v' w1 hown' hgr _
        rw [lU_snoc] at hown'
        have hb2 := (hbw.alloc hzw (.cells #[.int .u64 (lo : Int)] 50)).grown hgr (by simp; omega) (fun j hj => (hown.lt j hj).1)
        clear hown hgr
        go_wp2
        go_roundg (2 * (M + 1 - (i + 1)) + c')
        case measure => exact hdec.out
        case rel => exact ⟨i + 1, c', _, by go_num, rfl, by omega, hlast'.out, rfl, hown', hb2, hst⟩
end Go.Proofs.YtabgfdingdmnlaaGreatDoor
namespace Go.Cal
/-- A row of the product, at its beginning. -/
structure TimesRow (H : Nat) (xs ys L : List Nat) (i : Nat) : Prop where
  len : L.length = xs.length + ys.length + 1
  dig : Dig H L
  zero : ∀ j, i + ys.length ≤ j → L.getD j 0 = 0
  val : vl H L = vl H (xs.take i) * vl H ys
theorem TimesRow.start {H : Nat} (hH : 0 < H) (xs ys : List Nat) : TimesRow H xs ys (List.replicate (xs.length + ys.length + 1) 0) 0 :=
  ⟨by simp, dig_zeros hH _, fun j _ => by simp [List.getD_eq_getElem?_getD, List.getElem?_replicate]; split <;> rfl, by rw [vl_zeros]; simp [vl]⟩
/-- Within a row. -/
structure TimesIn (H : Nat) (xs ys L : List Nat) (i x k c : Nat) : Prop where
  len : L.length = xs.length + ys.length + 1
  dig : Dig H L
  zero : ∀ j, i + ys.length < j ∨ (j = i + ys.length ∧ k ≤ ys.length) → L.getD j 0 = 0
  car : c < H
  kle : k ≤ ys.length + 1
  last : k = ys.length + 1 → c = 0
  val : vl H L + H ^ i * H ^ k * c = vl H (xs.take i) * vl H ys + H ^ i * (x * vl H (ys.take k))
theorem TimesRow.into {H : Nat} (hH : 0 < H) {xs ys L : List Nat} {i : Nat} (h : TimesRow H xs ys L i) (x : Nat) : TimesIn H xs ys L i x 0 0 :=
  ⟨h.len, h.dig, fun j hj => h.zero j (by omega), hH, by omega, fun _ => rfl, by rw [h.val]; simp [vl]⟩
theorem TimesIn.step {H : Nat} {xs ys L : List Nat} {i x k c y o : Nat} (h : TimesIn H xs ys L i x k c) (hi : i < xs.length) (hk : k ≤ ys.length) (hx : x < H) (hy : ys.getD k 0 = y) (by' : y < H) (ho : L.getD (i + k) 0 = o) :
    TimesIn H xs ys (L.set (i + k) ((x * y + o + c) % H)) i x (k + 1) ((x * y + o + c) / H) := by
  have hH : 0 < H := by omega
  have hlen := h.len
  have hc := h.car
  have hoH : o < H := ho ▸ dig_getD hH h.dig _
  have hS : x * y + o + c < H * H := by
    have h1 : x * y ≤ (H - 1) * (H - 1) := Nat.mul_le_mul (by omega) (by omega)
    obtain ⟨g, rfl⟩ : ∃ g, H = g + 1 := ⟨H - 1, by omega⟩
    simp only [Nat.add_sub_cancel] at h1
    have h2 : (g + 1) * (g + 1) = g * g + g + g + 1 := by rw [Nat.add_mul, Nat.mul_add]; omega
    omega
  have hset := vl_set (b := H) L (i + k) ((x * y + o + c) % H) (by omega)
  rw [ho] at hset
  have hm := Nat.mod_add_div (x * y + o + c) H
  refine ⟨by rw [List.length_set]; exact hlen, dig_set h.dig _ (Nat.mod_lt _ hH), fun j hj => ?_, Nat.div_lt_of_lt_mul hS, by omega, fun e => ?_, ?_⟩
  · rw [getD_set_ne (by omega)]
    exact h.zero j (by omega)
  · have hke : k = ys.length := by omega
    have hy0 : y = 0 := by rw [← hy, hke]; simp [List.getD_eq_getElem?_getD]
    have ho0 : o = 0 := by rw [← ho, hke]; exact h.zero _ (.inr ⟨rfl, by omega⟩)
    rw [hy0, ho0, Nat.mul_zero, Nat.zero_add]
    exact Nat.div_eq_of_lt hc
  · have hv := h.val
    rw [Nat.pow_add] at hset
    rw [vl_getD, hy, Nat.pow_succ]
    generalize (x * y + o + c) / H = q at *
    generalize (x * y + o + c) % H = s at *
    generalize vl H (L.set (i + k) s) = VL at *
    generalize vl H L = V at *
    generalize vl H (ys.take k) = W at *
    generalize vl H (xs.take i) * vl H ys = A at *
    generalize H ^ i = P at *
    generalize H ^ k = Q at *
    have e1 : P * Q * s + P * (Q * H) * q = P * Q * (x * y) + P * Q * o + P * Q * c := by
      rw [show P * (Q * H) * q = P * Q * (H * q) by simp only [Nat.mul_assoc], ← Nat.mul_add, hm, Nat.mul_add, Nat.mul_add]
    have e2 : P * (x * (W + Q * y)) = P * (x * W) + P * Q * (x * y) := by
      rw [Nat.mul_add x, Nat.mul_add P]
      congr 1
      simp only [Nat.mul_assoc, Nat.mul_left_comm]
    rw [e2]
    omega
theorem TimesIn.out {H : Nat} {xs ys L : List Nat} {i x k : Nat} (h : TimesIn H xs ys L i x k 0) (hx : xs.getD i 0 = x) (hk : ys.length ≤ k) : TimesRow H xs ys L (i + 1) := by
  refine ⟨h.len, h.dig, fun j hj => h.zero j (.inl (by omega)), ?_⟩
  have := h.val
  rw [Nat.mul_zero, Nat.add_zero, vl_take_all ys k hk] at this
  rw [this, vl_getD, hx, Nat.add_mul, Nat.mul_assoc]
/-- Shifted up, at the head of a round. -/
structure UpRel (H : Nat) (xs L : List Nat) (q p i c : Nat) : Prop where
  len : L.length = q + i
  dig : Dig H L
  car : c < p
  val : vl H L + H ^ (q + i) * c = vl H (xs.take i) * p * H ^ q
theorem UpRel.start {H : Nat} (hH : 0 < H) (xs : List Nat) (q : Nat) {p : Nat} (hp : 0 < p) : UpRel H xs (List.replicate q 0) q p 0 0 :=
  ⟨by simp, dig_zeros hH _, hp, by rw [vl_zeros]; simp [vl]⟩
theorem UpRel.step {H : Nat} {xs L : List Nat} {q p i c x : Nat} (h : UpRel H xs L q p i c) (hx : xs.getD i 0 = x) (bx : x < H) : UpRel H xs (L ++ [(x * p + c) % H]) q p (i + 1) ((x * p + c) / H) := by
  have hH : 0 < H := by omega
  have hc := h.car
  have hm := Nat.mod_add_div (x * p + c) H
  refine ⟨by simp [h.len]; omega, dig_append h.dig (fun z hz => by simp at hz; subst hz; exact Nat.mod_lt _ hH), ?_, ?_⟩
  · refine (Nat.div_lt_iff_lt_mul hH).2 ?_
    have : (x + 1) * p ≤ H * p := Nat.mul_le_mul_right _ bx
    rw [Nat.add_mul] at this
    rw [Nat.mul_comm p H]
    omega
  · have hv := h.val
    rw [vl_snoc, h.len, vl_getD, hx, show q + (i + 1) = q + i + 1 by omega, Nat.pow_succ]
    generalize (x * p + c) / H = u at *
    generalize (x * p + c) % H = s at *
    have e1 : H ^ (q + i) * s + H ^ (q + i) * H * u = H ^ (q + i) * (x * p) + H ^ (q + i) * c := by rw [Nat.mul_assoc, ← Nat.mul_add, hm, Nat.mul_add]
    have e2 : (vl H (xs.take i) + H ^ i * x) * p * H ^ q = vl H (xs.take i) * p * H ^ q + H ^ (q + i) * (x * p) := by
      rw [Nat.add_mul, Nat.add_mul]
      congr 1
      rw [Nat.pow_add]
      simp only [Nat.mul_assoc, Nat.mul_left_comm, Nat.mul_comm]
    rw [e2]
    omega
theorem UpRel.done {H : Nat} {xs L : List Nat} {q p c : Nat} (h : UpRel H xs L q p xs.length c) : vl H (L ++ [c]) = vl H xs * p * H ^ q := by
  rw [vl_snoc, h.len, h.val, vl_take_all _ _ (Nat.le_refl _)]
/-- Shifted down, at the head of a round; ys: the half words from the place on. -/
structure DownRel (H : Nat) (ys L : List Nat) (p i : Nat) : Prop where
  len : L.length = i
  dig : Dig H L
  val : vl H L * p + ys.getD 0 0 % p = vl H (ys.take i) + H ^ i * (ys.getD i 0 % p)
theorem DownRel.start (H : Nat) (ys : List Nat) (p : Nat) : DownRel H ys [] p 0 := ⟨rfl, fun x hx => by simp at hx, by simp [vl]⟩
theorem DownRel.step {H : Nat} {ys L : List Nat} {p i o : Nat} (h : DownRel H ys L p i) (ho : o < H) (he : o * p + ys.getD i 0 % p = ys.getD i 0 + H * (ys.getD (i + 1) 0 % p)) : DownRel H ys (L ++ [o]) p (i + 1) := by
  refine ⟨by simp [h.len], dig_append h.dig (fun z hz => by simp at hz; omega), ?_⟩
  have hv := h.val
  rw [vl_snoc, h.len, vl_getD, Nat.add_mul, Nat.pow_succ]
  have e1 : H ^ i * o * p + H ^ i * (ys.getD i 0 % p) = H ^ i * ys.getD i 0 + H ^ i * H * (ys.getD (i + 1) 0 % p) := by
    rw [Nat.mul_assoc, ← Nat.mul_add, he, Nat.mul_add, Nat.mul_assoc]
  omega
theorem DownRel.done {H : Nat} {ys L : List Nat} {p : Nat} (h : DownRel H ys L p ys.length) (hp : 0 < p) : vl H L = vl H ys / p := by
  have hv := h.val
  rw [vl_take_all _ _ (Nat.le_refl _), show ys.getD ys.length 0 = 0 by simp [List.getD_eq_getElem?_getD], Nat.zero_mod, Nat.mul_zero, Nat.add_zero] at hv
  rw [← hv, Nat.mul_comm, Nat.mul_add_div hp, Nat.div_eq_of_lt (Nat.mod_lt _ hp), Nat.add_zero]
end Go.Cal
