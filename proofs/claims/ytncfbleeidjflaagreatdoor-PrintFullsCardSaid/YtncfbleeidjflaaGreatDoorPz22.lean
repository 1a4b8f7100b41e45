/- How digits are written, walked: Right, joined, zeros. Condition: the table of powers reads as it is laid. -/
import Derived.Test.YtncfbleeidjflaaGreatDoorPz05
import Derived.Test.YtncfbleeidjflaaGreatDoorPz19
namespace Go.Proofs.YtncfbleeidjflaaGreatDoor
open Go.RowKit Go.Cal
/-- The last digit of a numeral. -/
theorem dec_end {d : Nat} : (Lib.decDigits d).getD ((Lib.decDigits d).length - 1) 0 = UInt8.ofNat (48 + d % 10) := by
  obtain ⟨r, c, h1⟩ := snoc_of (dec_ne d)
  have h2 := numV_dec d
  have hc : isDig c = true := dec_digs d c (by rw [h1]; simp)
  unfold isDig at hc
  simp only [Bool.and_eq_true, decide_eq_true_eq] at hc
  rw [h1, numV_snoc] at h2
  rw [h1]
  have e : (r ++ [c]).getD ((r ++ [c]).length - 1) 0 = c := by simp [List.getD_eq_getElem?_getD]
  rw [e]
  refine UInt8.toNat_inj.1 ?_
  rw [UInt8.toNat_ofNat']
  omega
/-- Which digits are right, of a number of few words. -/
theorem dright_iff {N : Nat} {k : Int} (h0 : 0 < N) (hk : -5000 ≤ k ∧ k ≤ 5000) : DRight N k ↔ (Lib.decDigits N).length ≤ 2000 ∧ N % 10 ≠ 0 := by
  unfold DRight
  constructor
  · rintro (⟨h, _⟩ | ⟨_, h2, h3, _⟩)
    · omega
    · exact ⟨h3, h2⟩
  · rintro ⟨h3, h2⟩
    exact .inr ⟨h0, h2, h3, hk.1, hk.2⟩
theorem dec_bigG {N e f : Nat} (h : (Lib.decDigits N).length ≤ e) (hf : 4 * e ≤ 64 * f) : N < 18446744073709551616 ^ f := by
  have h2 := numV_lt (Lib.decDigits N) (dec_digs N)
  rw [numV_dec] at h2
  have h1 : 10 ^ (Lib.decDigits N).length ≤ 10 ^ e := Nat.pow_le_pow_right (by decide) h
  have h3 : 10 ^ e ≤ 16 ^ e := Nat.pow_le_pow_left (by decide) _
  have h4 : (16 : Nat) ^ e = 2 ^ (4 * e) := by rw [Nat.pow_mul]
  have h5 : (18446744073709551616 : Nat) ^ f = 2 ^ (64 * f) := by rw [Nat.pow_mul]
  have h6 : 2 ^ (4 * e) ≤ 2 ^ (64 * f) := Nat.pow_le_pow_right (by decide) hf
  omega
theorem dec_big {N : Nat} (h : (Lib.decDigits N).length ≤ 2000) : N < 18446744073709551616 ^ 128 := dec_bigG h (by decide)
set_option maxRecDepth 100000 in
set_option maxHeartbeats 1000000 in
theorem right_t {w : World} {v : Value} {N : Nat} (neg : Bool) (k : Int) (hT : Tab10 w) (h : IsT w v 128 N) :
    Calls Tryz.prog 139 #[.agg #[.bool neg, v, .int .i64 k]] w fun e w' => e = .returned (.bool (decide (DRight N k))) ∧ Below w.heap.size w w' := by
  have hN := h.isN
  obtain ⟨A, c, zs, rfl, rd, hc, hcm, hl, nr⟩ := h
  have hb0 := (Below.refl w.heap.size w).alloc (Nat.le_refl _) (.cells #[.bool neg, .slice A zs.length c, .int .i64 k] 51)
  by_cases h0 : zs = []
  · subst h0
    obtain rfl : N = 0 := by rw [← nr.val]; rfl
    by_cases hk : k = 0
    · subst hk
      have hd : decide (DRight 0 0) = true := by decide
      rw [hd]
      go_enter Tryz.func139, Tryz.ntmps139
      go_wp2
      go_ret
      exact ⟨rfl, hb0⟩
    · have hd : decide (DRight 0 k) = false := by
        refine decide_eq_false ?_
        rintro (⟨_, h⟩ | ⟨h, _⟩)
        · exact hk h
        · omega
      rw [hd]
      have hk' : (k == 0) = false := by simpa using hk
      go_enter Tryz.func139, Tryz.ntmps139
      go_wp2
      go_ret
      exact ⟨rfl, hb0⟩
  · have hpos := List.length_pos_iff.2 h0
    obtain ⟨b, off, rfl, hbB, hcell⟩ := rd.at (i := 0) hpos
    obtain ⟨n, hn⟩ : ∃ n, zs.length = n := ⟨_, rfl⟩
    have hlast := nr.top h0
    have hx := hcell (n - 1) (by omega)
    have hxv : zs.getD (n - 1) 0 = zs.getLast h0 := by
      rw [List.getLast_eq_getElem, List.getD_eq_getElem?_getD, List.getElem?_eq_getElem (by omega)]
      simp [hn]
    rw [hxv] at hx
    obtain ⟨x, hxx⟩ : ∃ x, zs.getLast h0 = x := ⟨_, rfl⟩
    rw [hxx] at hx hlast
    have hN0 : 0 < N := by
      have := vl_pos (b := 18446744073709551616) nr.top h0
      rw [nr.val] at this
      exact Nat.lt_of_lt_of_le (Nat.pow_pos (by decide)) this
    rw [hn] at hN hc hl hb0 ⊢
    have hx' : (w.alloc (.cells #[.bool neg, .slice (some ⟨b, off, none⟩) n c, .int .i64 k] 51)).cell? ⟨b, off + (n - 1), none⟩ = some (.int .u64 (x : Nat)) := by
      rw [World.cell?_alloc_lt _ _ _ hbB]; exact hx
    have hT' := hT.below hb0
    have hN' := hN.below hb0
    have hx0 : ((x : Int) == 0) = false := by simpa using hlast
    clear hcell hxv hxx nr rd
    by_cases hk1 : k < -5000
    · have hd : decide (DRight N k) = false := decide_eq_false (by unfold DRight; omega)
      rw [hd]
      go_enter Tryz.func139, Tryz.ntmps139
      go_wp2
      go_ret
      exact ⟨rfl, hb0⟩
    · by_cases hk2 : 5000 < k
      · have hd : decide (DRight N k) = false := decide_eq_false (by unfold DRight; omega)
        rw [hd]
        go_enter Tryz.func139, Tryz.ntmps139
        go_wp2
        go_ret
        exact ⟨rfl, hb0⟩
      · have hi := dright_iff hN0 (k := k) ⟨by omega, by omega⟩
        have htx := stext_t hT' hN' (by decide)
        rw [show (⟨(Lib.decDigits N).toArray⟩ : ByteArray) = strL (Lib.decDigits N) from rfl] at htx
        obtain ⟨S, hS⟩ : ∃ S, strL (Lib.decDigits N) = S := ⟨_, rfl⟩
        obtain ⟨z, hz⟩ : ∃ z, (Lib.decDigits N).length = z := ⟨_, rfl⟩
        have hsz : S.size = z := by rw [← hS, strL_size, hz]
        have hz0 : 0 < z := by rw [← hz]; exact List.length_pos_iff.2 (dec_ne N)
        have hge : ∀ h : z - 1 < S.size, S[z - 1] = UInt8.ofNat (48 + N % 10) := fun h => by
          subst hS
          rw [strL_get, ← hz]
          exact dec_end
        rw [hS] at htx
        rw [hz] at hi
        replace htx := Lib.hid htx
        replace hS := Lib.hid hS
        replace hz := Lib.hid hz
        by_cases hl2 : z ≤ 2000
        · by_cases h10 : N % 10 = 0
          · have hd : decide (DRight N k) = false := decide_eq_false fun h => (hi.1 h).2 h10
            rw [hd]
            rw [h10] at hge
            go_enter Tryz.func139, Tryz.ntmps139
            go_wp2_with fail
            refine htx.out.mono ?_
            rintro e w1 ⟨rfl, hb1⟩
            go_wp2
            go_ret
            exact ⟨rfl, chain hb0 hb1⟩
          · have hd : decide (DRight N k) = true := decide_eq_true (hi.2 ⟨hl2, h10⟩)
            rw [hd]
            have hne : ((48 + (N : Int) % 10) % 256 != 48) = true := by
              rw [bne_iff_ne]
              omega
            go_enter Tryz.func139, Tryz.ntmps139
            go_wp2_with fail
            refine htx.out.mono ?_
            rintro e w1 ⟨rfl, hb1⟩
            go_wp2
            go_ret
            exact ⟨rfl, chain hb0 hb1⟩
        · have hd : decide (DRight N k) = false := decide_eq_false fun h => hl2 (hi.1 h).1
          rw [hd]
          go_enter Tryz.func139, Tryz.ntmps139
          go_wp2_with fail
          refine htx.out.mono ?_
          rintro e w1 ⟨rfl, hb1⟩
          go_wp2
          go_ret
          exact ⟨rfl, chain hb0 hb1⟩
theorem zeros_any (n : Int) (h0 : 0 ≤ n) (h1 : n ≤ 100000) (w : World) :
    Calls Tryz.prog 141 #[.int .i64 n] w fun e w' => e = .returned (.string (strL (List.replicate n.toNat 48))) ∧ Below w.heap.size w w' := by
  obtain ⟨c, rfl⟩ := Int.eq_ofNat_of_zero_le h0
  have hrep := Lib.hid (Tryz.strings_Repeat ⟨#[48]⟩ c w (by omega) (by show 1 * _ ≤ _; omega))
  have he : (⟨(Lib.repeatL [48] c).toArray⟩ : ByteArray) = strL (List.replicate c 48) := by rw [repeat_one]; rfl
  go_enter Tryz.func141, Tryz.ntmps141
  go_wp2_with fail
  refine hrep.out.mono ?_
  rintro e w1 ⟨rfl, hb⟩
  go_wp2
  go_ret
  refine ⟨?_, hb⟩
  rw [Int.toNat_natCast, ← he]
  rfl
theorem info_ts : (Tryz.prog.info? 9).map (fun i => (i.zero, i.size, i.bytes)) = some (some (.string ⟨#[]⟩), 1, 16) := by kernel_rfl
theorem under_tss : Tryz.prog.underlying 151 = some (.slice 9) := by kernel_rfl
theorem join_flat (l : List (List UInt8)) : (⟨(Lib.join ((l.map strL).map (·.data.toList)) (⟨#[]⟩ : ByteArray).data.toList).toArray⟩ : ByteArray) = strL l.flatten := by
  have h1 : (l.map strL).map (·.data.toList) = l := by
    rw [List.map_map]
    refine (List.map_congr_left fun x _ => ?_).trans (List.map_id l)
    rfl
  have h2 : ∀ l : List (List UInt8), Lib.join l [] = l.flatten := by
    intro l
    match l with
    | [] => rfl
    | x :: r =>
      rw [Lib.join_cons, Lib.joinTail]
      have : (r.map fun x => [] ++ x) = r := by simp
      simp
  rw [h1]
  show (⟨(Lib.join l []).toArray⟩ : ByteArray) = _
  rw [h2]
  rfl
/-- The join of texts that stand in a row. -/
theorem join_row {w : World} {b n c : Nat} {l : List (List UInt8)} (hn : l.length = n) (hc : n ≤ c) (hn2 : n ≤ 100) (hb : b < w.heap.size) (hs : l.flatten.length ≤ 1000000) (hcells : ∀ j x, l[j]? = some x → w.cell? ⟨b, j, none⟩ = some (.string (strL x))) :
    Calls Tryz.prog 110 #[.slice (some ⟨b, 0, none⟩) n c, .string ⟨#[]⟩] w fun e w' => e = .returned (.string (strL l.flatten)) ∧ Below w.heap.size w w' := by
  subst hn
  have h := Tryz.strings_Join b 0 c (l.map strL) ⟨#[]⟩ w (fun j x hj => by
    rw [List.getElem?_map] at hj
    obtain ⟨y, hy, rfl⟩ := Option.map_eq_some_iff.1 hj
    rw [Nat.zero_add]
    exact hcells j y hy) hb (by rw [List.length_map]; omega) (by rw [List.length_map]; exact hc) (by
      have e := congrArg ByteArray.size (join_flat l)
      rw [strL_size] at e
      have e2 : (Lib.join ((l.map strL).map (·.data.toList)) (⟨#[]⟩ : ByteArray).data.toList).length = l.flatten.length := by
        rw [← e]
        show _ = (List.toArray _).size
        rw [List.size_toArray]
      rw [e2]; omega)
  rw [List.length_map, join_flat] at h
  exact h
set_option maxRecDepth 100000 in
set_option maxHeartbeats 1000000 in
theorem joined_any (neg : Bool) {w : World} {b n : Nat} {l : List (List UInt8)} (hn : l.length = n) (hn0 : 0 < n) (hn2 : n ≤ 10) (hb : b < w.heap.size) (hs : l.flatten.length ≤ 100000) (hcells : ∀ j x, l[j]? = some x → w.cell? ⟨b, j, none⟩ = some (.string (strL x))) :
    Calls Tryz.prog 140 #[.bool neg, .slice (some ⟨b, 0, none⟩) n n] w fun e w' => e = .returned (.string (strL ((if neg = true then [45] else []) ++ l.flatten))) ∧ Below w.heap.size w w' := by
  have hj := fun (w' : World) (hbw : Below w.heap.size w w') => join_row (w := w') (c := n) hn (Nat.le_refl _) (by omega) (Nat.lt_of_lt_of_le hb hbw.size) (by omega) (fun j x hj => (hbw.cell (p := ⟨b, j, none⟩) hb).trans (hcells j x hj))
  replace hj := Lib.hid hj
  cases neg
  · rw [if_neg (by decide), List.nil_append]
    go_enter Tryz.func140, Tryz.ntmps140
    go_wp2_with fail
    refine (hj.out _ (Below.refl _ _)).mono ?_
    rintro e w1 ⟨rfl, hb1⟩
    go_wp2
    go_ret
    exact ⟨rfl, hb1⟩
  · obtain ⟨i0, hi, hz0, hz1, hz2⟩ := info_parts info_ts
    rw [if_pos rfl]
    have hl1 : ([45] :: l).length = 1 + n := by rw [List.length_cons, hn, Nat.add_comm]
    go_enter Tryz.func140, Tryz.ntmps140
    go_wp2_with (at_builtin; refine wpList_append_grows _ rfl _ _ 151 rfl 9 i0 (.string ⟨#[]⟩) 1 16 under_tss hi hz0 hz1 hz2 rfl (by decide) (some ⟨w.heap.size, 0, none⟩) 1 1 [.string ⟨#[45]⟩] rfl (fun h => by cases h) rfl ?hold ⟨b, 0, none⟩ n n (l.map fun x => .string (strL x)) rfl ?c1 ?c2 ?c3 ?c4 ?c5 ?c6 ?_)
    case hold =>
      intro b' e j u hj
      injection e with e
      subst e
      match j, hj with
      | 0, hj =>
        injection hj with hj
        subst hj
        rw [Addr.add_lit]
        simp
      | j + 1, hj => simp at hj
    case c1 => rw [List.length_map, hn, Nat.mul_one]
    case c2 =>
      intro j u hj
      rw [List.getElem?_map] at hj
      obtain ⟨x, hx, rfl⟩ := Option.map_eq_some_iff.1 hj
      rw [Addr.add_lit, Nat.zero_add, World.cell?_alloc_lt _ _ _ hb]
      exact hcells j x hx
    case c3 =>
      intro u hu
      simp only [List.mem_map] at hu
      obtain ⟨x, _, rfl⟩ := hu
      rfl
    case c4 => omega
    case c5 => unfold maxLen; omega
    case c6 => omega
    intro v' w1 hown hgr
    obtain ⟨_, ⟨_, h1⟩ | ⟨g, cap, cur, rfl, hg, hw, hnc, hm, hs', ht⟩⟩ := hown
    · omega
    · have hcs : ∀ j x, ([45] :: l)[j]? = some x → w1.cell? ⟨g, j, none⟩ = some (.string (strL x)) := by
        intro j x hj
        have hjl : j < 1 + n := by rw [← hl1]; exact (List.getElem?_eq_some_iff.1 hj).1
        have e3 : cur.toList[j]? = some (.string (strL x)) := by
          have e4 : (([45] :: l).map fun x => Value.string (strL x))[j]? = some (.string (strL x)) := by rw [List.getElem?_map, hj]; rfl
          have e5 : (Value.string ⟨#[45]⟩ :: l.map fun x => Value.string (strL x)) = (([45] :: l).map fun x => Value.string (strL x)) := rfl
          rw [← e4, ← e5, ← ht, List.getElem?_take_of_lt (by omega)]
        simp [World.cell?, hw, ← Array.getElem?_toList, e3]
      have hlt := (Array.getElem?_eq_some_iff.1 hw).1
      have hbw : Below w.heap.size w w1 := ((Below.refl _ _).alloc (Nat.le_refl _) _).grown hgr (by simp) (fun j hj => by cases hj)
      have hjr := Lib.hid (join_row (w := w1) hl1 hnc (by omega) hlt (by rw [List.flatten_cons, List.length_append, List.length_cons, List.length_nil]; omega) hcs)
      clear hcs hw ht hgr
      go_wp2_with fail
      refine hjr.out.mono ?_
      rintro e w2 ⟨rfl, hb2⟩
      go_wp2
      go_ret
      exact ⟨rfl, chain hbw hb2⟩
theorem cell_lt {w : World} {a : Addr} {v : Value} (h : w.cell? a = some v) : a.block < w.heap.size := by
  rcases Nat.lt_or_ge a.block w.heap.size with h1 | h1
  · exact h1
  · unfold World.cell? at h
    rw [Array.getElem?_eq_none (by omega)] at h
    cases h
/-- The join of texts that the call itself lays. -/
theorem joined_lit (neg : Bool) (w : World) (l : List (List UInt8)) (C : Array Value) (hC : C = (l.map fun x => Value.string (strL x)).toArray) (n : Nat) (hn : l.length = n) (hn0 : 0 < n) (hn2 : n ≤ 10) (hs : l.flatten.length ≤ 100000) (t : List UInt8) (ht : (if neg = true then [45] else []) ++ l.flatten = t) :
    Calls Tryz.prog 140 #[.bool neg, .slice (some ⟨w.heap.size, 0, none⟩) n n] (w.alloc (.cells C 9)) fun e w' => e = .returned (.string (strL t)) ∧ Below w.heap.size w w' := by
  subst hC
  subst ht
  refine (joined_any neg (w := w.alloc (.cells _ 9)) hn hn0 hn2 (by simp) hs fun j x hj => ?_).mono ?_
  · rw [World.cell?_alloc_new, List.getElem?_toArray, List.getElem?_map, hj]
    rfl
  · rintro e w' ⟨rfl, hb⟩
    exact ⟨rfl, chain ((Below.refl _ _).alloc (Nat.le_refl _) _) hb⟩
theorem joined_litD (neg : Bool) (w : World) (l : List (List UInt8)) (C : Array Value) (hC : C = (l.map fun x => Value.string (strL x)).toArray) (n : Nat) (hn : l.length = n) (hn0 : 0 < n) (hn2 : n ≤ 10) (hs : l.flatten.length ≤ 100000) (t : List UInt8) (ht : (if neg = true then [45] else []) ++ l.flatten = t) :
    Calls Tryz.prog 140 #[.bool neg, .slice (some ⟨w.heap.size, 0, none⟩) n n] (w.alloc (.cells C 9)).drew fun e w' => e = .returned (.string (strL t)) ∧ Below w.heap.size w w' := by
  subst hC
  subst ht
  refine (joined_any neg (w := (w.alloc (.cells _ 9)).drew) hn hn0 hn2 (by show w.heap.size < (w.alloc _).heap.size; simp) hs fun j x hj => ?_).mono ?_
  · show (w.alloc _).cell? _ = _
    rw [World.cell?_alloc_new, List.getElem?_toArray, List.getElem?_map, hj]
    rfl
  · rintro e w' ⟨rfl, hb⟩
    exact ⟨rfl, chain ((Below.refl _ _).alloc (Nat.le_refl _) _).drew hb⟩
end Go.Proofs.YtncfbleeidjflaaGreatDoor
