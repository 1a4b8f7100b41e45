/- Bytes put behind bytes, inside a statement that draws its order; what Scan tells, as one. Conditions: the length's reach. -/
/- The document's Scan, third part: byte by byte. Conditions: a text's reach. -/
/- Plain: the whole text of a number is read as that number, by whatever power of two. Conditions: at most 2048 bits, powers up to 1200. -/
/- Plain: what the laws of chapter 16 ask of texts by powers of two. Conditions: none. -/
/- Plain: what the document's answer for chapter 16 asks, and what the code tells, are one. Conditions: none. -/
/- Plain: how the document looks at a whole text: its digits, its point, its noughts ahead. Conditions: none. -/
import Derived.Test.YtncfbleeidjflaaGreatDoorTx19
import Derived.Deep.RegionLaw
import Derived.Deep.Upon
import Derived.Test.YtncfbleeidjflaaGreatDoorTx22
import Derived.Test.YtncfbleeidjflaaGreatDoorTx17
import Derived.Test.YtncfbleeidjflaaGreatDoorTx03
import Derived.Test.YtncfbleeidjflaaGreatDoorTx13
import Derived.Test.YtncfbleeidjflaaGreatDoorTx01
namespace Go.Proofs.YtncfbleeidjflaaGreatDoor
open Go.RowKit Go.Cal
/-- An empty row. -/
theorem OwnB.none {w : World} {base g : Nat} (hb : base ≤ g) (hg : g < w.heap.size) : OwnB w base g 0 [] :=
  ⟨hb, hg, Nat.le_refl _, by unfold maxLen; omega, fun i hi => by simp at hi, fun i hi => by simp at hi, fun i hi => by simp at hi⟩
theorem pBlk_made' (w : World) (cs : Array Value) (t : TypeId) (s : Nat) (hs : w.heap.size = s) : pBlk s cs t (w.alloc (.cells cs t)) := by
  subst hs; exact pBlk_made w cs t
theorem pBlk.drew {s : Nat} {cs : Array Value} {t : TypeId} {w : World} (h : pBlk s cs t w) : pBlk s cs t w.drew := h
theorem pBlk.alloc {s : Nat} {cs : Array Value} {t : TypeId} {w : World} (h : pBlk s cs t w) (o : Obj) : pBlk s cs t (w.alloc o) := (pBlk_st s cs t) _ _ h ((Below.refl _ _).alloc (Nat.le_refl _) _)
theorem pBlk.ne {s g g' : Nat} {cs : Array Value} {t : TypeId} {w : World} (h : pBlk s cs t w) (hg : g' = g ∨ g' = w.heap.size) (hne : s ≠ g) : s ≠ g' := by
  have := h.lt
  rcases hg with e | e
  · rw [e]; exact hne
  · rw [e]; omega
theorem pBlk.only {s g : Nat} {cs : Array Value} {t : TypeId} {w w' : World} (h : pBlk s cs t w) (ho : ∀ j, j < w.heap.size → j ≠ g → w'.heap[j]? = w.heap[j]?) (hne : s ≠ g) : pBlk s cs t w' := (ho s h.lt hne).trans h
end Go.Proofs.YtncfbleeidjflaaGreatDoor
namespace Go.Cal
theorem nxt_25 {st : Nat} {c : UInt8} (h : nxt st c = 2 ∨ nxt st c = 5) : isDig c = true := by
  unfold nxt at h
  split at h
  · split at h
    · split at h <;> omega
    · split at h
      · omega
      · split at h
        · omega
        · split at h <;> omega
  · split at h
    · rename_i h2; exact h2.1
    · split at h
      · omega
      · split at h
        · omega
        · split at h
          · omega
          · split at h
            · rename_i h3
              rcases h3 with ⟨rfl, _⟩ | ⟨rfl, _⟩ | ⟨rfl, _⟩ | ⟨rfl, _⟩ | ⟨rfl, _⟩ | ⟨rfl, _⟩ <;> omega
            · omega
theorem nxt_8 {st : Nat} {c : UInt8} (h : nxt st c = 8) : isDig c = true := by
  unfold nxt at h
  split at h
  · split at h
    · split at h <;> omega
    · split at h
      · omega
      · split at h
        · omega
        · split at h <;> omega
  · split at h
    · rename_i h2; exact h2.1
    · split at h
      · omega
      · split at h
        · omega
        · split at h
          · omega
          · split at h
            · rename_i h3
              rcases h3 with ⟨rfl, _⟩ | ⟨rfl, _⟩ | ⟨rfl, _⟩ | ⟨rfl, _⟩ | ⟨rfl, _⟩ | ⟨rfl, _⟩ <;> omega
            · omega
/-- What the machine keeps. -/
structure Mac.Inv (m : Mac) (k : Nat) : Prop where
  ex : m.ex ≤ CR
  bh : m.bh ≤ k
  len : m.ds.length ≤ k
  digs : ∀ c ∈ m.ds, isDig c = true
theorem Mac.Inv.step {m : Mac} {k : Nat} (h : m.Inv k) (c : UInt8) : (m.step c).Inv (k + 1) := by
  obtain ⟨h1, h2, h3, h4⟩ := h
  refine ⟨?_, ?_, ?_, ?_⟩
  · unfold Mac.step
    simp only
    split
    · exact Nat.min_le_right _ _
    · exact h1
  · unfold Mac.step
    simp only
    split <;> omega
  · unfold Mac.step
    simp only
    split
    · rw [List.length_append]; simp; omega
    · omega
  · unfold Mac.step
    simp only
    split
    · rename_i hd
      intro x hx
      rcases List.mem_append.1 hx with hx | hx
      · exact h4 x hx
      · rw [List.mem_singleton.1 hx]; exact nxt_25 hd
    · exact h4
theorem Mac.Inv.zero : mac0.Inv 0 := ⟨Nat.zero_le _, Nat.le_refl _, Nat.le_refl _, fun c hc => by cases hc⟩
/-- Where the machine stands behind i bytes of l. -/
structure At (l : List UInt8) (i : Nat) (m : Mac) : Prop where
  run : mac0.run (l.take i) = m
  live : m.st ∈ liveL
  inv : m.Inv i
  out : outA 0 l = ((outA m.st (l.drop i)).1, i + (outA m.st (l.drop i)).2)
theorem At.zero (l : List UInt8) : At l 0 mac0 := ⟨rfl, by decide, .zero, by rw [List.drop_zero, Nat.zero_add]; rfl⟩
theorem drop_getD (l : List UInt8) (i : Nat) (h : i < l.length) : l.drop i = l.getD i 0 :: l.drop (i + 1) := by
  rw [List.drop_eq_getElem_cons h, List.getD_eq_getElem?_getD, List.getElem?_eq_getElem h]; rfl
theorem take_getD (l : List UInt8) (i : Nat) (h : i < l.length) : l.take (i + 1) = l.take i ++ [l.getD i 0] := by
  rw [List.take_succ_eq_append_getElem h, List.getD_eq_getElem?_getD, List.getElem?_eq_getElem h]; rfl
theorem At.dead {l : List UInt8} {i : Nat} {m : Mac} (h : At l i m) (hi : i < l.length) (h9 : nxt m.st (l.getD i 0) = 99) : (textS l).1 = false ∧ (textS l).2 = i := by
  have ho := h.out
  rw [drop_getD l i hi, outA_dead h9] at ho
  obtain ⟨g1, g2⟩ := outA_text l
  have hf : (outA 0 l).1 = false := by rw [ho]
  exact ⟨by rw [← g1, hf], by rw [← g2 hf, ho]; rfl⟩
theorem At.step {l : List UInt8} {i : Nat} {m : Mac} (h : At l i m) (hi : i < l.length) (h9 : nxt m.st (l.getD i 0) ≠ 99) : At l (i + 1) (m.step (l.getD i 0)) := by
  refine ⟨by rw [take_getD l i hi, run_snoc, h.run], nxt_live h.live _ h9, h.inv.step _, ?_⟩
  have ho := h.out
  rw [drop_getD l i hi, outA_go rfl h9] at ho
  rw [ho]
  show _ = ((outA (nxt m.st (l.getD i 0)) (l.drop (i + 1))).1, _)
  congr 1
  show _ = i + 1 + (outA (nxt m.st (l.getD i 0)) (l.drop (i + 1))).2
  omega
theorem At.done {l : List UInt8} {m : Mac} (h : At l l.length m) : (textS l).1 = over m.st ∧ (over m.st = false → (textS l).2 = l.length) := by
  have ho := h.out
  rw [List.drop_length, outA_nil] at ho
  obtain ⟨g1, g2⟩ := outA_text l
  refine ⟨by rw [← g1, ho], fun hf => ?_⟩
  have hf' : (outA 0 l).1 = false := by rw [ho]; exact hf
  rw [← g2 hf', ho]
  rfl
theorem At.text {l : List UInt8} {m : Mac} (h : At l l.length m) (hok : (textS l).1 = true) : ((10 ≤ m.st ∧ textV CR l = ⟨m.st / 10 + 1, m.neg, 0, 0, 0, false⟩) ∨
    (m.st < 10 ∧ textV CR l = itemV m.neg m.ds ((if m.less = true then -(m.ex : Int) else (m.ex : Int)) - (m.bh : Int)))) := by
  have hr := h.run
  rw [List.take_length] at hr
  have := run_text l hok
  rw [hr] at this
  exact this
end Go.Cal
namespace Go.Proofs.YtncfbleeidjflaaGreatDoor
open Go.RowKit Go.Cal
theorem pItemN.less {b b' : Nat} {v : Value} {it : Cal.Item} {w : World} (h : pItemN b' v it w) (hb : b ≤ b') : pItemN b v it w := by
  obtain ⟨A, c, zs, e, h1, h2, h3, h4, h5, h6⟩ := h
  exact ⟨A, c, zs, e, h1, h2, h3, h4, h5, h6.imp id (fun ⟨x, off, e, hx⟩ => ⟨x, off, e, Nat.le_trans hb hx⟩)⟩
/-- What the document's Scan tells. -/
def RScanOut (w : World) (l : List UInt8) (e : Ending) (w' : World) : Prop :=
  (((textS l).1 = true ∧ ∃ v, e = .returned (.tuple #[v, .int .i64 0, .int .i64 0]) ∧ pItemN w.heap.size v (textV CR l) w') ∨ ((textS l).1 = false ∧ e = .returned (.tuple #[.agg #[.int .i64 0, .bool false, .slice none 0 0, .int .i64 0, .int .i64 0, .bool false], .int .i64 ((textS l).2 : Nat), .int .i64 2]))) ∧ Below w.heap.size w w'
theorem strL_at (l : List UInt8) (i : Nat) (h : i < l.length) : (strL l).extract i (i + 1) = strL [l.getD i 0] := by
  unfold strL
  apply ByteArray.ext
  apply Array.toList_inj.1
  rw [ByteArray.data_extract, Array.toList_extract]
  simp [List.extract_eq_take_drop, drop_getD l i h]
set_option maxRecDepth 100000 in
set_option maxHeartbeats 6000000 in
theorem rscan_any (l : List UInt8) (hl : l.length ≤ 100000) (w : World) : Calls Tryz.prog 39 #[.string (strL l)] w (RScanOut w l) := by
  obtain ⟨n, hn⟩ : ∃ n, l.length = n := ⟨_, rfl⟩
  have hsz := strL_size l
  rw [hn] at hsz hl
  have hbw : ∀ ds cs, Below w.heap.size w ((w.alloc (.cells ds 76)).alloc (.cells cs 76)) := fun _ cs => ((Below.refl _ _).alloc (Nat.le_refl _) _).alloc (by simp) _
  go_enter Tryz.func39, Tryz.ntmps39
  go_wp2
  go_loopg [5, 7, 8, 9, 10, 11] n (fun g sv dv xv bv lv iv wr => ∃ (i : Nat) (m : Mac), iv = .int .i64 i ∧ i + g = n ∧ sv = .int .i64 (m.st : Nat) ∧ dv = .string (strL m.ds) ∧ xv = .int .i64 (m.ex : Nat) ∧ bv = .int .i64 (m.bh : Nat) ∧ lv = .bool m.less ∧ At l i m ∧ wr = (w.alloc (.cells #[.int .i64 0, .bool false, .slice none 0 0, .int .i64 0, .int .i64 0, .bool false] 76)).alloc (.cells #[.int .i64 0, .bool m.neg, .slice none 0 0, .int .i64 0, .int .i64 0, .bool false] 76))
  case atStart => exact ⟨0, mac0, rfl, by omega, rfl, rfl, rfl, rfl, rfl, .zero l, rfl⟩
  case round =>
    obtain ⟨i, m, rfl, hik, rfl, rfl, rfl, rfl, rfl, hAt, rfl⟩ := hrel
    obtain ⟨st, ng, D, ex, bh, ls⟩ := m
    obtain ⟨iex, ibh, ilen, idig⟩ := hAt.inv
    have hlive := hAt.live
    simp only at iex ibh ilen idig hlive ⊢
    have iexb : ex ≤ 1099511627776 := iex
    by_cases hk0 : gk = 0
    · obtain rfl : i = n := by omega
      have hAt' : At l l.length ⟨st, ng, D, ex, bh, ls⟩ := by rw [hn]; exact hAt
      obtain ⟨hok1, hok2⟩ := hAt'.done
      have htx := hAt'.text
      have hwh := fun w => whole_any st hlive w
      have hst : st ≤ 32 := by
        simp only [liveL, List.mem_cons, List.not_mem_nil, or_false] at hlive
        omega
      simp only at hok1 hok2 htx
      have hbl : bh ≤ 100000 := by omega
      have hDl : D.length ≤ 1000000 := by omega
      clear hAt hAt' hlive
      by_cases hov : over st = true
      · rw [hov] at hok1 hwh
        have htx := htx hok1
        replace hwh := Lib.hid hwh
        replace hok1 := Lib.hid hok1
        clear hok2 hov
        rcases htx with ⟨h10, htv⟩ | ⟨h10, htv⟩
        · have h10i : (10 : Int) ≤ (st : Int) := by omega
          obtain ⟨q, hq⟩ : ∃ q : Nat, st / 10 = q := ⟨_, rfl⟩
          have hq1 : (st : Int) / 10 = (q : Int) := by omega
          have hq2 : Int.tdiv (st : Int) 10 = (q : Int) := by rw [Int.tdiv_eq_ediv_of_nonneg (by omega)]; exact hq1
          have hqb : q ≤ 10 := by omega
          rw [hq] at htv
          replace htv := Lib.hid htv
          replace hq := Lib.hid hq
          go_wp2_with fail
          refine (hwh.out _).mono ?_
          rintro e w1 ⟨rfl, rfl⟩
          go_wp2
          refine bodyPost_ret (v := .tuple #[.agg #[.int .i64 ((q + 1 : Nat) : Int), .bool ng, .slice none 0 0, .int .i64 0, .int .i64 0, .bool false], .int .i64 0, .int .i64 0]) (by simp [results, Tryz.results39, go_sem]) rfl ⟨.inl ⟨hok1.out, _, rfl, by rw [htv.out]; exact pItemN.nil _ _ _ _ _ _ _⟩, hbw _ _⟩
        · have h10i : ¬ (10 : Int) ≤ (st : Int) := by omega
          have hB0 : pBlk w.heap.size #[.int .i64 0, .bool false, .slice none 0 0, .int .i64 0, .int .i64 0, .bool false] 76 ((w.alloc (.cells #[.int .i64 0, .bool false, .slice none 0 0, .int .i64 0, .int .i64 0, .bool false] 76)).alloc (.cells #[.int .i64 1, .bool ng, .slice none 0 0, .int .i64 0, .int .i64 0, .bool false] 76)) := (pBlk_made w #[.int .i64 0, .bool false, .slice none 0 0, .int .i64 0, .int .i64 0, .bool false] 76).alloc _
          have hs0 : ((w.alloc (.cells #[.int .i64 0, .bool false, .slice none 0 0, .int .i64 0, .int .i64 0, .bool false] 76)).alloc (.cells #[.int .i64 1, .bool ng, .slice none 0 0, .int .i64 0, .int .i64 0, .bool false] 76)).heap.size = w.heap.size + 2 := by simp
          have hbw0 := hbw #[.int .i64 0, .bool false, .slice none 0 0, .int .i64 0, .int .i64 0, .bool false] #[.int .i64 1, .bool ng, .slice none 0 0, .int .i64 0, .int .i64 0, .bool false]
          cases ls
          · rw [if_neg (by decide)] at htv
            have hof := fun w => rof_any ng D idig hDl ((ex : Int) - (bh : Int)) ⟨by omega, by omega⟩ w
            replace htv := Lib.hid htv
            replace hof := Lib.hid hof
            replace hB0 := Lib.hid hB0
            replace hs0 := Lib.hid hs0
            replace hbw0 := Lib.hid hbw0
            go_wp2_with fail
            refine (hwh.out _).mono ?_
            rintro e w1 ⟨rfl, rfl⟩
            go_wp2_with fail
            refine (hof.out _).mono ?_
            rintro e w2 ⟨v, rfl, hv, hb⟩
            obtain ⟨A', c', zs, rfl, hrest⟩ := id hv
            have hB := pBlk_st _ _ _ _ _ hB0.out hb
            have hbw2 := chain hbw0.out hb
            have hv2 := hv.less (b := w.heap.size + 2) (by rw [hs0.out]; exact Nat.le_refl _)
            have q0 := hB.cell 0 _ rfl
            have q1 := hB.cell 1 _ rfl
            have q2 := hB.cell 2 _ rfl
            have q3 := hB.cell 3 _ rfl
            have q4 := hB.cell 4 _ rfl
            have q5 := hB.cell 5 _ rfl
            have f0 := hB.free 0
            have f1 := hB.free 1
            have f2 := hB.free 2
            have f3 := hB.free 3
            have f4 := hB.free 4
            have f5 := hB.free 5
            have hlt := hB.lt
            clear hB hb hv hrest
            go_wp2
            refine bodyPost_ret (v := .tuple #[.agg #[.int .i64 ((itemV ng D ((ex : Int) - (bh : Int))).kind : Nat), .bool (itemV ng D ((ex : Int) - (bh : Int))).neg, .slice A' zs.length c', .int .i64 (itemV ng D ((ex : Int) - (bh : Int))).k, .int .i64 (itemV ng D ((ex : Int) - (bh : Int))).big, .bool (itemV ng D ((ex : Int) - (bh : Int))).cut], .int .i64 0, .int .i64 0]) (by simp [results, Tryz.results39, go_sem, q0, q1, q2, q3, q4, q5]) rfl ⟨.inl ⟨hok1.out, _, rfl, ?_⟩, ?_⟩
            · rw [htv.out]
              refine pItemN.less ?_ (show w.heap.size ≤ w.heap.size + 2 by omega)
              repeat (refine pItemN.setCell _ ?_ (by show w.heap.size < w.heap.size + 2; omega))
              exact hv2
            · repeat (refine Below.setCell ?_ (by exact Nat.le_refl _) _)
              exact hbw2
          · rw [if_pos rfl] at htv
            have hof := fun w => rof_any ng D idig hDl (-(ex : Int) - (bh : Int)) ⟨by omega, by omega⟩ w
            replace htv := Lib.hid htv
            replace hof := Lib.hid hof
            replace hB0 := Lib.hid hB0
            replace hs0 := Lib.hid hs0
            replace hbw0 := Lib.hid hbw0
            go_wp2_with fail
            refine (hwh.out _).mono ?_
            rintro e w1 ⟨rfl, rfl⟩
            go_wp2_with fail
            refine (hof.out _).mono ?_
            rintro e w2 ⟨v, rfl, hv, hb⟩
            obtain ⟨A', c', zs, rfl, hrest⟩ := id hv
            have hB := pBlk_st _ _ _ _ _ hB0.out hb
            have hbw2 := chain hbw0.out hb
            have hv2 := hv.less (b := w.heap.size + 2) (by rw [hs0.out]; exact Nat.le_refl _)
            have q0 := hB.cell 0 _ rfl
            have q1 := hB.cell 1 _ rfl
            have q2 := hB.cell 2 _ rfl
            have q3 := hB.cell 3 _ rfl
            have q4 := hB.cell 4 _ rfl
            have q5 := hB.cell 5 _ rfl
            have f0 := hB.free 0
            have f1 := hB.free 1
            have f2 := hB.free 2
            have f3 := hB.free 3
            have f4 := hB.free 4
            have f5 := hB.free 5
            have hlt := hB.lt
            clear hB hb hv hrest
            go_wp2
            refine bodyPost_ret (v := .tuple #[.agg #[.int .i64 ((itemV ng D (-(ex : Int) - (bh : Int))).kind : Nat), .bool (itemV ng D (-(ex : Int) - (bh : Int))).neg, .slice A' zs.length c', .int .i64 (itemV ng D (-(ex : Int) - (bh : Int))).k, .int .i64 (itemV ng D (-(ex : Int) - (bh : Int))).big, .bool (itemV ng D (-(ex : Int) - (bh : Int))).cut], .int .i64 0, .int .i64 0]) (by simp [results, Tryz.results39, go_sem, q0, q1, q2, q3, q4, q5]) rfl ⟨.inl ⟨hok1.out, _, rfl, ?_⟩, ?_⟩
            · rw [htv.out]
              refine pItemN.less ?_ (show w.heap.size ≤ w.heap.size + 2 by omega)
              repeat (refine pItemN.setCell _ ?_ (by show w.heap.size < w.heap.size + 2; omega))
              exact hv2
            · repeat (refine Below.setCell ?_ (by exact Nat.le_refl _) _)
              exact hbw2
      · have hov' : over st = false := by simpa using hov
        rw [hov'] at hok1 hwh
        have hok2 := hok2 hov'
        replace hwh := Lib.hid hwh
        replace hok1 := Lib.hid hok1
        replace hok2 := Lib.hid hok2
        clear hov hov' htx
        go_wp2_with fail
        refine (hwh.out _).mono ?_
        rintro e w1 ⟨rfl, rfl⟩
        go_wp2
        refine bodyPost_ret (v := .tuple #[.agg #[.int .i64 0, .bool false, .slice none 0 0, .int .i64 0, .int .i64 0, .bool false], .int .i64 (i : Nat), .int .i64 2]) (by simp [results, Tryz.results39, go_sem]) rfl ⟨.inr ⟨hok1.out, by rw [hok2.out, hn]⟩, hbw _ _⟩
    · have hin : (i : Int) < (n : Int) := by omega
      have hil : i < l.length := by omega
      obtain ⟨c, hc⟩ : ∃ c, l.getD i 0 = c := ⟨_, rfl⟩
      have hg : ∀ h : i < (strL l).size, (strL l)[i] = c := fun h => by rw [strL_get, hc]
      have hxt : (strL l).extract i (i + 1) = strL [c] := by rw [strL_at l i hil, hc]
      have hdead := hAt.dead hil
      have hstep := hAt.step hil
      rw [hc] at hdead hstep
      obtain ⟨s', hs'⟩ : ∃ s, nxt st c = s := ⟨_, rfl⟩
      have hnx : ∀ w, Calls Tryz.prog 100 #[.int .i64 (st : Nat), .int .u8 ((c.toNat : Nat) : Int)] w fun e w' => e = .returned (.int .i64 (s' : Nat)) ∧ w = w' := fun w => by
        have := next_any st c hlive w
        unfold NextTells at this
        rw [hs'] at this
        exact this
      simp only at hdead hstep
      rw [hs'] at hdead hstep
      have hDs := strL_size D
      have hcs : (strL [c]).size = 1 := strL_size [c]
      have hcat : strL D ++ strL [c] = strL (D ++ [c]) := by
        unfold strL
        apply ByteArray.ext
        simp
      have hDl : D.length ≤ 100000 := by omega
      have hbl : bh ≤ 100000 := by omega
      have hS8 := @nxt_8 st c
      rw [hs'] at hS8
      replace hnx := Lib.hid hnx
      replace hdead := Lib.hid hdead
      replace hstep := Lib.hid hstep
      replace hc := Lib.hid hc
      replace hs' := Lib.hid hs'
      replace hS8 := Lib.hid hS8
      clear hAt hlive
      by_cases e99 : s' = 99
      · subst e99
        go_wp2_with fail
        refine (hnx.out _).mono ?_
        rintro e w1 ⟨rfl, rfl⟩
        obtain ⟨d1, d2⟩ := hdead.out trivial
        replace d1 := Lib.hid d1
        replace d2 := Lib.hid d2
        go_wp2
        refine bodyPost_ret (v := .tuple #[.agg #[.int .i64 0, .bool false, .slice none 0 0, .int .i64 0, .int .i64 0, .bool false], .int .i64 (i : Nat), .int .i64 2]) (by simp [results, Tryz.results39, go_sem]) rfl ⟨.inr ⟨d1.out, by rw [d2.out]⟩, hbw _ _⟩
      · by_cases e1 : s' = 1
        · subst e1
          have hA := hstep.out (by decide)
          go_wp2_with fail
          refine (hnx.out _).mono ?_
          rintro e w1 ⟨rfl, rfl⟩
          go_wp2
          go_roundg (gk - 1)
          case measure => omega
          case rel => exact ⟨i + 1, ⟨1, true, D, ex, bh, ls⟩, by go_num, by omega, rfl, rfl, rfl, rfl, rfl, by have := hA; unfold Mac.step at this; simpa [hs'.out] using this, rfl⟩
        · by_cases e2 : s' = 2
          · subst e2
            have hA := hstep.out (by decide)
            go_wp2_with fail
            refine (hnx.out _).mono ?_
            rintro e w1 ⟨rfl, rfl⟩
            go_wp2
            go_roundg (gk - 1)
            case measure => omega
            case rel => exact ⟨i + 1, ⟨2, ng, D ++ [c], ex, bh, ls⟩, by go_num, by omega, rfl, rfl, rfl, by go_num, rfl, by have := hA; unfold Mac.step at this; simpa [hs'.out] using this, rfl⟩
          · by_cases e5 : s' = 5
            · subst e5
              have hA := hstep.out (by decide)
              go_wp2_with fail
              refine (hnx.out _).mono ?_
              rintro e w1 ⟨rfl, rfl⟩
              go_wp2
              go_roundg (gk - 1)
              case measure => omega
              case rel => exact ⟨i + 1, ⟨5, ng, D ++ [c], ex, bh + 1, ls⟩, by go_num, by omega, rfl, rfl, rfl, by go_num, rfl, by have := hA; unfold Mac.step at this; simpa [hs'.out] using this, rfl⟩
            · by_cases e7 : s' = 7
              · subst e7
                by_cases h45 : c = 45
                · replace h45 := Lib.hid h45
                  have hA := hstep.out (by decide)
                  go_wp2_with fail
                  refine (hnx.out _).mono ?_
                  rintro e w1 ⟨rfl, rfl⟩
                  have hci : ((c.toNat : Nat) : Int) = 45 := by rw [h45.out]; rfl
                  go_wp2
                  go_roundg (gk - 1)
                  case measure => omega
                  case rel => exact ⟨i + 1, ⟨7, ng, D, ex, bh, true⟩, by go_num, by omega, rfl, rfl, rfl, by go_num, rfl, by have := hA; unfold Mac.step at this; simpa [hs'.out, show (c == 45) = true from beq_iff_eq.2 h45.out] using this, rfl⟩
                · have hci : ¬ ((c.toNat : Nat) : Int) = 45 := fun e => h45 (UInt8.toNat_inj.1 (by show c.toNat = 45; omega))
                  have hcb : (((c.toNat : Nat) : Int) == 45) = false := beq_eq_false_iff_ne.2 hci
                  have hcb2 : (c == 45) = false := beq_eq_false_iff_ne.2 h45
                  have hA := hstep.out (by decide)
                  go_wp2_with fail
                  refine (hnx.out _).mono ?_
                  rintro e w1 ⟨rfl, rfl⟩
                  go_wp2
                  go_roundg (gk - 1)
                  case measure => omega
                  case rel => exact ⟨i + 1, ⟨7, ng, D, ex, bh, false⟩, by go_num, by omega, rfl, rfl, rfl, by go_num, rfl, by have := hA; unfold Mac.step at this; simpa [hs'.out, hcb2] using this, rfl⟩
              · by_cases e8 : s' = 8
                · subst e8
                  have hA := hstep.out (by decide)
                  have hdg := hS8.out rfl
                  have hd1 : 48 ≤ c.toNat ∧ c.toNat ≤ 57 := by unfold isDig at hdg; simp at hdg; omega
                  obtain ⟨ex', hex'⟩ : ∃ q, min (10 * ex + c.toNat - 48) CR = q := ⟨_, rfl⟩
                  have hmn : min ((10 : Int) * (ex : Int) + ((c.toNat : Nat) : Int) - 48) 1099511627776 = (ex' : Int) := by rw [← hex']; unfold CR; omega
                  obtain ⟨hd2, hd3⟩ := hd1
                  replace hex' := Lib.hid hex'
                  clear hdg
                  go_wp2_with fail
                  refine (hnx.out _).mono ?_
                  rintro e w1 ⟨rfl, rfl⟩
                  go_wp2
                  go_roundg (gk - 1)
                  case measure => omega
                  case rel => exact ⟨i + 1, ⟨8, ng, D, ex', bh, ls⟩, by go_num, by omega, rfl, rfl, rfl, by go_num, rfl, by have := hA; unfold Mac.step at this; simpa [hs'.out, hex'.out] using this, rfl⟩
                · have hA := hstep.out e99
                  have i99 : ¬ (s' : Int) = 99 := by omega
                  have i1 : ¬ (s' : Int) = 1 := by omega
                  have i2 : ¬ (s' : Int) = 2 := by omega
                  have i5 : ¬ (s' : Int) = 5 := by omega
                  have i7 : ¬ (s' : Int) = 7 := by omega
                  have i8 : ¬ (s' : Int) = 8 := by omega
                  have j99 : ((s' : Int) == 99) = false := beq_eq_false_iff_ne.2 i99
                  have j1 : ((s' : Int) == 1) = false := beq_eq_false_iff_ne.2 i1
                  have j2 : ((s' : Int) == 2) = false := beq_eq_false_iff_ne.2 i2
                  have j5 : ((s' : Int) == 5) = false := beq_eq_false_iff_ne.2 i5
                  have j7 : ((s' : Int) == 7) = false := beq_eq_false_iff_ne.2 i7
                  have j8 : ((s' : Int) == 8) = false := beq_eq_false_iff_ne.2 i8
                  go_wp2_with fail
                  refine (hnx.out _).mono ?_
                  rintro e w1 ⟨rfl, rfl⟩
                  go_wp2
                  go_roundg (gk - 1)
                  case measure => omega
                  case rel => exact ⟨i + 1, ⟨s', ng, D, ex, bh, ls⟩, by go_num, by omega, rfl, rfl, rfl, rfl, rfl, by have := hA; unfold Mac.step at this; simpa [hs'.out, e1, e2, e5, e7, e8] using this, rfl⟩
theorem rscan_yes (l : List UInt8) (it : Cal.Item) (hok : (textS l).1 = true) (hit : textV CR l = it) (hl : l.length ≤ 100000) (w : World) : Calls Tryz.prog 39 #[.string (strL l)] w fun e w' =>
    ∃ A' n' c', e = .returned (.tuple #[.agg #[.int .i64 (it.kind : Nat), .bool it.neg, .slice A' n' c', .int .i64 it.k, .int .i64 it.big, .bool it.cut], .int .i64 0, .int .i64 0]) ∧ pItemN w.heap.size (.agg #[.int .i64 (it.kind : Nat), .bool it.neg, .slice A' n' c', .int .i64 it.k, .int .i64 it.big, .bool it.cut]) it w' ∧ Below w.heap.size w w' := by
  subst hit
  refine (rscan_any l hl w).mono ?_
  rintro e w' ⟨⟨_, v, rfl, hv⟩ | ⟨hno, _⟩, hb⟩
  · obtain ⟨A', c', zs, rfl, h⟩ := id hv
    exact ⟨_, _, _, rfl, hv, hb⟩
  · rw [hok] at hno; cases hno
theorem rscan_no (l : List UInt8) (p : Nat) (hok : (textS l).1 = false) (hp : (textS l).2 = p) (hl : l.length ≤ 100000) (w : World) : Calls Tryz.prog 39 #[.string (strL l)] w fun e w' =>
    e = .returned (.tuple #[.agg #[.int .i64 0, .bool false, .slice none 0 0, .int .i64 0, .int .i64 0, .bool false], .int .i64 p, .int .i64 2]) ∧ Below w.heap.size w w' := by
  subst hp
  refine (rscan_any l hl w).mono ?_
  rintro e w' ⟨⟨hy, _⟩ | ⟨_, rfl⟩, hb⟩
  · rw [hok] at hy; cases hy
  · exact ⟨rfl, hb⟩
end Go.Proofs.YtncfbleeidjflaaGreatDoor
namespace Go.Cal
open Go.Lib
theorem all48 {l : List UInt8} (h : ∀ c ∈ l, c = 48) : l = List.replicate l.length 48 := List.eq_replicate_of_mem h
theorem take48 (l : List UInt8) : l.takeWhile (· == 48) = List.replicate (l.takeWhile (· == 48)).length 48 := all48 fun c hc => by
  have := List.all_takeWhile (p := (· == (48 : UInt8))) (l := l)
  exact beq_iff_eq.1 (List.all_eq_true.1 this c hc)
theorem trR_split (l : List UInt8) : ∃ z, l = trR l ++ List.replicate z 48 := by
  refine ⟨(l.reverse.takeWhile (· == 48)).length, ?_⟩
  unfold trR
  have h := List.takeWhile_append_dropWhile (p := (· == (48 : UInt8))) (l := l.reverse)
  have h2 := congrArg List.reverse h
  rw [List.reverse_append, List.reverse_reverse, take48, List.reverse_replicate] at h2
  exact h2.symm
theorem numV_rep (z : Nat) : numV (List.replicate z 48) = 0 := by
  have := numV_zeros z []
  rwa [List.append_nil] at this
theorem numV_tail (l : List UInt8) (z : Nat) : numV (l ++ List.replicate z 48) = numV l * 10 ^ z := by
  rw [numV_append, numV_rep, List.length_replicate, Nat.add_zero]
theorem numV_padd : ∀ (k r : Nat), r < 10 ^ k → numV (padd k r) = r
  | 0, r, h => by
    have : r = 0 := by simpa using h
    subst this; rfl
  | k + 1, r, h => by
    rw [Nat.pow_succ] at h
    rw [padd, numV_snoc, numV_padd k (r / 10) (by omega), digit_toNat (by omega)]
    omega
theorem qfr_split (M f : Nat) : ∃ z, f = (qfr M f).length + z ∧ numV (decDigits (M / 10 ^ f) ++ qfr M f) * 10 ^ z = M := by
  obtain ⟨z, hz⟩ := trR_split (padd f (M % 10 ^ f))
  have hl := congrArg List.length hz
  rw [padd_length, List.length_append, List.length_replicate] at hl
  refine ⟨z, hl, ?_⟩
  have hr : M % 10 ^ f < 10 ^ f := Nat.mod_lt _ (Nat.pow_pos (by decide))
  rw [← numV_tail, List.append_assoc, show qfr M f ++ List.replicate z 48 = padd f (M % 10 ^ f) from hz.symm, numV_append, numV_padd _ _ hr, padd_length, numV_dec]
  exact Nat.div_add_mod' _ _
theorem qfr_digs (M f : Nat) : ∀ c ∈ qfr M f, isDig c = true := fun c hc => by
  have h1 : c ∈ padd f (M % 10 ^ f) := (trR_prefix _).subset hc
  have : ∀ k r, ∀ c ∈ padd k r, isDig c = true := by
    intro k
    induction k with
    | zero => intro r c hc; simp [padd] at hc
    | succ k ih =>
      intro r c hc
      rw [padd] at hc
      rcases List.mem_append.1 hc with h | h
      · exact ih _ c h
      · rw [List.mem_singleton.1 h]; exact isDig_ofNat (by omega)
  exact this _ _ c h1
theorem pow_cancel {x y p n : Nat} (hp : 0 < p) (h : x * p ^ n = y * p ^ n) : x = y := Nat.eq_of_mul_eq_mul_right (Nat.pow_pos hp) h
theorem dec_len {u k : Nat} (hk : 1 ≤ k) (h : u < 10 ^ k) : (decDigits u).length ≤ k := (padd_dec k u hk h).2
theorem qM_pos {N : Nat} (h : 0 < N) (e : Int) : 0 < qM N e := by
  unfold qM
  split
  · exact Nat.mul_pos h (Nat.two_pow_pos _)
  · exact Nat.mul_pos h (Nat.pow_pos (by decide))
theorem qM_zero (e : Int) : qM 0 e = 0 := by unfold qM; split <;> simp
def qPow (b n : Nat) : Nat := b ^ n
theorem qPow_le {b m n : Nat} (hb : 0 < b) (h : m ≤ n) : qPow b m ≤ qPow b n := Nat.pow_le_pow_right hb h
def qT : Nat := qPow 2 1200
theorem qT_pos : 0 < qT := by decide +kernel
theorem qT_le {n : Nat} (h : n ≤ 1200) : 2 ^ n ≤ qT := qPow_le (by decide) h
theorem qB_978 : qB * qT ≤ 10 ^ 978 := by decide +kernel
theorem qB_617 : qB ≤ 10 ^ 617 := by unfold qB; decide +kernel
/-- How long the text's parts are. -/
theorem qM_bnd {N : Nat} {e : Int} (hN : N < qB) (he : ¬ qfar e) (h0 : 0 < N) : (decDigits (qM N e / 10 ^ qF e)).length ≤ 1000 ∧ 10 ^ (qF e - 1000) ≤ qM N e ∧ (decDigits (qM N e / 10 ^ qF e)).length + qF e ≤ 1990 := by
  unfold qfar at he
  by_cases h : 0 ≤ e
  · have hf : qF e = 0 := by unfold qF; omega
    have hM : qM N e < 10 ^ 978 := by
      unfold qM
      rw [if_pos h]
      have h1 : N * 2 ^ e.toNat < qB * qT := Nat.mul_lt_mul_of_lt_of_le hN (qT_le (by omega)) qT_pos
      exact Nat.lt_of_lt_of_le h1 qB_978
    have hl := dec_len (k := 978) (by decide) hM
    have := qM_pos h0 e
    rw [hf, Nat.pow_zero, Nat.div_one]
    omega
  · have hf1 : 1 ≤ qF e ∧ qF e ≤ 1200 := by unfold qF; omega
    have hMe : qM N e = N * 5 ^ qF e := by unfold qM qF; rw [if_neg h]
    have hq : qM N e / 10 ^ qF e < 10 ^ 617 := by
      have h1 : qM N e / 10 ^ qF e ≤ N := by
        rw [hMe]
        refine Nat.div_le_of_le_mul ?_
        rw [Nat.mul_comm]
        exact Nat.mul_le_mul_right _ (Nat.pow_le_pow_left (by decide) _)
      exact Nat.lt_of_le_of_lt h1 (Nat.lt_of_lt_of_le hN qB_617)
    have hl := dec_len (k := 617) (by decide) hq
    refine ⟨by omega, ?_, by omega⟩
    rw [hMe]
    rcases Nat.lt_or_ge (qF e) 1000 with h2 | h2
    · rw [show qF e - 1000 = 0 by omega, Nat.pow_zero]
      exact Nat.mul_pos h0 (Nat.pow_pos (by decide))
    · have h3 : 10 ^ (qF e - 1000) ≤ 10 ^ 200 := Nat.pow_le_pow_right (by decide) (by omega)
      have h4 : qPow 5 1000 ≤ 5 ^ qF e := qPow_le (by decide) h2
      have h5 : 10 ^ 200 ≤ qPow 5 1000 := by decide +kernel
      have h6 : 1 * 5 ^ qF e ≤ N * 5 ^ qF e := Nat.mul_le_mul_right _ h0
      exact Nat.le_trans h3 (Nat.le_trans h5 (Nat.le_trans h4 (by omega)))
end Go.Cal
namespace Go.Cal
open Go.Lib
theorem qP_far (l : List UInt8) {e : Int} (he : qfar e) : qP l e = (1, false, 0) := by unfold qP; rw [if_pos he]
end Go.Cal
namespace Go.Cal
open Go.Lib
theorem cop_dvd (d c a : Nat) : (d * 2 ^ c) % 5 ^ a = 0 ↔ d % 5 ^ a = 0 := by
  have hc : Nat.Coprime (5 ^ a) (2 ^ c) := Nat.Coprime.pow _ _ (by decide)
  constructor
  · intro h
    exact Nat.mod_eq_zero_of_dvd (hc.dvd_of_dvd_mul_right (Nat.dvd_of_mod_eq_zero h))
  · intro h
    exact Nat.mod_eq_zero_of_dvd (Nat.dvd_mul_right_of_dvd (Nat.dvd_of_mod_eq_zero h) _)
/-- One division of a numerator by a denominator, or one by fives and one by twos. -/
theorem qwh_over (d : Nat) (k e : Int) : qwh d k e = if exP d (k - e) k % exQ (k - e) k = 0 then some (exP d (k - e) k / exQ (k - e) k) else none := by
  unfold qwh exP exQ
  by_cases hk : 0 ≤ k
  · rw [if_pos hk, show (-k).toNat = 0 by omega, Nat.pow_zero, Nat.one_mul]
    show (if 0 ≤ k - e then _ else _) = _
    by_cases ht : 0 ≤ k - e
    · rw [if_pos ht, show (-(k - e)).toNat = 0 by omega, Nat.pow_zero, Nat.mod_one, if_pos rfl, Nat.div_one]
    · rw [if_neg ht, show (k - e).toNat = 0 by omega, Nat.pow_zero, Nat.mul_one]
      rfl
  · rw [if_neg hk, show k.toNat = 0 by omega, Nat.pow_zero, Nat.mul_one]
    obtain ⟨f, hf⟩ : ∃ f, 5 ^ (-k).toNat = f := ⟨_, rfl⟩
    have hf0 : 0 < f := hf ▸ Nat.pow_pos (by decide)
    by_cases ht : 0 ≤ k - e
    · rw [show (-(k - e)).toNat = 0 by omega, Nat.pow_zero, Nat.mul_one]
      have hcd := cop_dvd d (k - e).toNat (-k).toNat
      rw [hf] at hcd ⊢
      unfold qdv
      by_cases h : d % f = 0
      · rw [if_pos h, if_pos (hcd.2 h)]
        show (if 0 ≤ k - e then _ else _) = _
        rw [if_pos ht]
        obtain ⟨q, rfl⟩ := Nat.dvd_of_mod_eq_zero h
        rw [Nat.mul_div_cancel_left _ hf0, Nat.mul_assoc, Nat.mul_div_cancel_left _ hf0]
      · rw [if_neg h, if_neg fun h2 => h (hcd.1 h2)]
        rfl
    · rw [show (k - e).toNat = 0 by omega, Nat.pow_zero, Nat.mul_one, hf]
      generalize hg : 2 ^ (-(k - e)).toNat = g
      unfold qdv
      by_cases h : d % f = 0
      · rw [if_pos h]
        show (if 0 ≤ k - e then _ else _) = _
        rw [if_neg ht]
        obtain ⟨q, rfl⟩ := Nat.dvd_of_mod_eq_zero h
        rw [Nat.mul_div_cancel_left _ hf0, Nat.mul_mod_mul_left, Nat.mul_div_mul_left _ _ hf0]
        simp only [Nat.mul_eq_zero]
        by_cases h2 : q % g = 0
        · rw [if_pos h2, if_pos (.inr h2)]
        · rw [if_neg h2, if_neg (by intro h3; rcases h3 with h3 | h3; omega; exact h2 h3)]
      · rw [if_neg h, if_neg]
        · rfl
        · intro h2
          exact h (Nat.mod_eq_zero_of_dvd (Nat.dvd_trans (Nat.dvd_mul_right f g) (Nat.dvd_of_mod_eq_zero h2)))
/-- The digits of a whole text, with its power of ten, are the number with its power of two. -/
theorem qtx_same {N D b z : Nat} {e : Int} (hz : qF e = b + z) (hD : D * 10 ^ z = qM N e) : exP D (-(b : Int)) (-(b : Int)) * exQ e 0 = exP N e 0 * exQ (-(b : Int)) (-(b : Int)) := by
  unfold exP exQ
  rw [show (-(b : Int)).toNat = 0 by omega, show (- -(b : Int)).toNat = b by omega, show (0 : Int).toNat = 0 from rfl, show (-(0 : Int)).toNat = 0 from rfl]
  simp only [Nat.pow_zero, Nat.mul_one, Nat.one_mul]
  unfold qF at hz
  unfold qM at hD
  by_cases he : 0 ≤ e
  · rw [if_pos he] at hD
    have hb : b = 0 := by omega
    have hz0 : z = 0 := by omega
    subst hb; subst hz0
    rw [show (-e).toNat = 0 by omega]
    simp at hD ⊢
    exact hD
  · rw [if_neg he] at hD
    rw [show e.toNat = 0 by omega, hz, Nat.pow_zero, Nat.mul_one]
    rw [hz] at hD
    refine pow_cancel (p := 10) (n := z) (by decide) ?_
    calc D * 2 ^ (b + z) * 10 ^ z = (D * 10 ^ z) * 2 ^ (b + z) := by ac_rfl
      _ = N * 5 ^ (b + z) * 2 ^ (b + z) := by rw [hD]
      _ = N * (2 ^ (b + z) * 5 ^ (b + z)) := by ac_rfl
      _ = N * 10 ^ (b + z) := by rw [ten_pow]
      _ = N * (5 ^ b * 2 ^ b) * 10 ^ z := by rw [Nat.pow_add, Nat.mul_comm (5 ^ b), ← ten_pow]; ac_rfl
end Go.Cal
namespace Go.Cal
open Go.Lib
/-- The digits of the first bytes of a text; where its point is, if that is among them. -/
def isD (q : List UInt8) (i : Nat) : List UInt8 := (q.take i).filter (· != 46)
def isP (n : Nat) (i : Nat) : Int := if i ≤ n then -1 else n
theorem isD_zero (q : List UInt8) : isD q 0 = [] := rfl
theorem isP_zero (n : Nat) : isP n 0 = -1 := by unfold isP; simp
theorem isD_point (q : List UInt8) (i : Nat) (h : i < q.length) (hc : q.getD i 0 = 46) : isD q (i + 1) = isD q i := by
  have h2 : q[i] = 46 := by simpa [List.getD_eq_getElem?_getD, h] using hc
  unfold isD
  rw [List.take_succ_eq_append_getElem h, List.filter_append, h2]
  simp
theorem isD_digit (q : List UInt8) (i : Nat) (h : i < q.length) (hc : ¬ q.getD i 0 = 46) : isD q (i + 1) = isD q i ++ [q.getD i 0] := by
  have h2 : q[i] = q.getD i 0 := by simp [List.getD_eq_getElem?_getD, h]
  have h3 : (q.getD i 0 != 46) = true := by simpa using hc
  unfold isD
  rw [List.take_succ_eq_append_getElem h, List.filter_append, h2]
  congr 1
  rw [List.filter_cons_of_pos (p := (· != 46)) h3]
  rfl
theorem isP_point (n : Nat) : isP n (n + 1) = n := by unfold isP; rw [if_neg (by omega)]
theorem isP_other {n i : Nat} (h : i ≠ n) : isP n (i + 1) = isP n i := by
  unfold isP
  by_cases h1 : i ≤ n
  · rw [if_pos h1, if_pos (by omega)]
  · rw [if_neg h1, if_neg (by omega)]
theorem isP_neg {n i : Nat} (h : i ≤ n) : isP n i = -1 := by unfold isP; rw [if_pos h]
section
variable (M f : Nat)
/-- What the bytes of a whole text are: the point behind the whole digits, all others digits. -/
theorem qtx_at (i : Nat) (h : i < (qtx M f).length) : ((qtx M f).getD i 0 = 46 ↔ i = (decDigits (M / 10 ^ f)).length) ∧ (i ≠ (decDigits (M / 10 ^ f)).length → isDig ((qtx M f).getD i 0) = true) := by
  obtain ⟨D, hD⟩ : ∃ D, decDigits (M / 10 ^ f) = D := ⟨_, rfl⟩
  obtain ⟨R, hR⟩ : ∃ R, qfr M f = R := ⟨_, rfl⟩
  have dD : ∀ c ∈ D, isDig c = true := hD ▸ dec_digs _
  have dR : ∀ c ∈ R, isDig c = true := hR ▸ qfr_digs M f
  have hq : qtx M f = D ++ (if R = [] then [] else 46 :: R) := by unfold qtx; rw [hD, hR]
  rw [hq] at h ⊢
  rw [hD]
  have key : (i < D.length ∧ isDig ((D ++ (if R = [] then [] else 46 :: R)).getD i 0) = true) ∨ (i = D.length ∧ (D ++ (if R = [] then [] else 46 :: R)).getD i 0 = 46) ∨ (D.length < i ∧ isDig ((D ++ (if R = [] then [] else 46 :: R)).getD i 0) = true) := by
    rcases Nat.lt_trichotomy i D.length with h1 | h1 | h1
    · refine .inl ⟨h1, ?_⟩
      rw [List.getD_eq_getElem?_getD, List.getElem?_append_left h1, List.getElem?_eq_getElem h1]
      exact dD _ (List.getElem_mem h1)
    · refine .inr (.inl ⟨h1, ?_⟩)
      by_cases hr : R = []
      · rw [if_pos hr, List.append_nil] at h
        omega
      · rw [if_neg hr, List.getD_eq_getElem?_getD, List.getElem?_append_right (by omega), h1, Nat.sub_self]
        rfl
    · refine .inr (.inr ⟨h1, ?_⟩)
      by_cases hr : R = []
      · rw [if_pos hr, List.append_nil] at h
        omega
      · rw [if_neg hr] at h ⊢
        rw [List.length_append, List.length_cons] at h
        have h2 : i - D.length - 1 < R.length := by omega
        rw [List.getD_eq_getElem?_getD, List.getElem?_append_right (by omega), show i - D.length = (i - D.length - 1) + 1 by omega, List.getElem?_cons_succ, List.getElem?_eq_getElem h2]
        exact dR _ (List.getElem_mem h2)
  have h46 : isDig 46 = false := by decide
  rcases key with ⟨k1, k2⟩ | ⟨k1, k2⟩ | ⟨k1, k2⟩
  · exact ⟨Iff.intro (fun e => by rw [e, h46] at k2; cases k2) (fun e => by omega), fun _ => k2⟩
  · exact ⟨Iff.intro (fun _ => k1) (fun _ => k2), fun e => absurd k1 e⟩
  · exact ⟨Iff.intro (fun e => by rw [e, h46] at k2; cases k2) (fun e => by omega), fun _ => k2⟩
theorem filter_digs {l : List UInt8} (h : ∀ c ∈ l, isDig c = true) : l.filter (· != 46) = l := by
  refine List.filter_eq_self.2 fun c hc => ?_
  have := (not_dig (h c hc)).2.2.2.2.1
  simpa using this
theorem isD_all : isD (qtx M f) (qtx M f).length = decDigits (M / 10 ^ f) ++ qfr M f := by
  unfold isD
  rw [List.take_length]
  unfold qtx
  rw [List.filter_append, filter_digs (dec_digs _)]
  congr 1
  split
  · rename_i h; rw [h]; rfl
  · rw [List.filter_cons_of_neg (by simp)]
    exact filter_digs (qfr_digs M f)
theorem qtx_len : (qtx M f).length = (decDigits (M / 10 ^ f)).length + (if qfr M f = [] then 0 else (qfr M f).length + 1) := by
  unfold qtx
  rw [List.length_append]
  split <;> simp
end
/-- Noughts ahead are taken away, but for the last digit. -/
def stp : List UInt8 → List UInt8
  | [] => []
  | [c] => [c]
  | c :: d :: r => if c = 48 then stp (d :: r) else c :: d :: r
theorem stp_val : ∀ l, numV (stp l) = numV l
  | [] => rfl
  | [c] => rfl
  | c :: d :: r => by
    unfold stp
    by_cases h : c = 48
    · rw [if_pos h, stp_val (d :: r), h]
      exact (numV_zeros 1 (d :: r)).symm
    · rw [if_neg h]
theorem stp_len : ∀ l, (stp l).length ≤ l.length
  | [] => Nat.le_refl _
  | [c] => Nat.le_refl _
  | c :: d :: r => by
    unfold stp
    split
    · have := stp_len (d :: r); simp at this ⊢; omega
    · exact Nat.le_refl _
theorem stp_ok : ∀ l, l ≠ [] → (∀ c ∈ l, isDig c = true) → stp l ≠ [] ∧ (∀ c ∈ stp l, isDig c = true) ∧ ((stp l).head? = some 48 → (stp l).length ≤ 1)
  | [], h, _ => absurd rfl h
  | [c], _, hd => ⟨by simp [stp], hd, fun _ => Nat.le_refl _⟩
  | c :: d :: r, _, hd => by
    unfold stp
    by_cases h : c = 48
    · rw [if_pos h]
      exact stp_ok (d :: r) (by simp) (fun x hx => hd x (by simp [hx]))
    · rw [if_neg h]
      exact ⟨by simp, hd, fun e => by simp at e; exact absurd e h⟩
end Go.Cal
