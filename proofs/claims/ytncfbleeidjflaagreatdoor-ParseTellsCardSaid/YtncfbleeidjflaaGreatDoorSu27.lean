/- The document's Scan, third part: byte by byte. Conditions: a text's reach. -/
import Derived.Test.YtncfbleeidjflaaGreatDoorSu26
import Derived.Test.YtncfbleeidjflaaGreatDoorSu17
namespace Go.Cal
theorem nxt_25 {st : Nat} {c : UInt8} (h : nxt st c = 2 ∨ nxt st c = 5) : isDig c = true := by
  unfold nxt at h
  split at h
  · split at h
    · split at h <;> omega
    · split at h
      · omega
      · split at h
        · omega
        · split at h <;> omega
  · split at h
    · rename_i h2; exact h2.1
    · split at h
      · omega
      · split at h
        · omega
        · split at h
          · omega
          · split at h
            · rename_i h3
              rcases h3 with ⟨rfl, _⟩ | ⟨rfl, _⟩ | ⟨rfl, _⟩ | ⟨rfl, _⟩ | ⟨rfl, _⟩ | ⟨rfl, _⟩ <;> omega
            · omega
theorem nxt_8 {st : Nat} {c : UInt8} (h : nxt st c = 8) : isDig c = true := by
  unfold nxt at h
  split at h
  · split at h
    · split at h <;> omega
    · split at h
      · omega
      · split at h
        · omega
        · split at h <;> omega
  · split at h
    · rename_i h2; exact h2.1
    · split at h
      · omega
      · split at h
        · omega
        · split at h
          · omega
          · split at h
            · rename_i h3
              rcases h3 with ⟨rfl, _⟩ | ⟨rfl, _⟩ | ⟨rfl, _⟩ | ⟨rfl, _⟩ | ⟨rfl, _⟩ | ⟨rfl, _⟩ <;> omega
            · omega
/-- What the machine keeps. -/
structure Mac.Inv (m : Mac) (k : Nat) : Prop where
  ex : m.ex ≤ CR
  bh : m.bh ≤ k
  len : m.ds.length ≤ k
  digs : ∀ c ∈ m.ds, isDig c = true
theorem Mac.Inv.step {m : Mac} {k : Nat} (h : m.Inv k) (c : UInt8) : (m.step c).Inv (k + 1) := by
  obtain ⟨h1, h2, h3, h4⟩ := h
  refine ⟨?_, ?_, ?_, ?_⟩
  · unfold Mac.step
    simp only
    split
    · exact Nat.min_le_right _ _
    · exact h1
  · unfold Mac.step
    simp only
    split <;> omega
  · unfold Mac.step
    simp only
    split
    · rw [List.length_append]; simp; omega
    · omega
  · unfold Mac.step
    simp only
    split
    · rename_i hd
      intro x hx
      rcases List.mem_append.1 hx with hx | hx
      · exact h4 x hx
      · rw [List.mem_singleton.1 hx]; exact nxt_25 hd
    · exact h4
theorem Mac.Inv.zero : mac0.Inv 0 := ⟨Nat.zero_le _, Nat.le_refl _, Nat.le_refl _, fun c hc => by cases hc⟩
/-- Where the machine stands behind i bytes of l. -/
structure At (l : List UInt8) (i : Nat) (m : Mac) : Prop where
  run : mac0.run (l.take i) = m
  live : m.st ∈ liveL
  inv : m.Inv i
  out : outA 0 l = ((outA m.st (l.drop i)).1, i + (outA m.st (l.drop i)).2)
theorem At.zero (l : List UInt8) : At l 0 mac0 := ⟨rfl, by decide, .zero, by rw [List.drop_zero, Nat.zero_add]; rfl⟩
theorem drop_getD (l : List UInt8) (i : Nat) (h : i < l.length) : l.drop i = l.getD i 0 :: l.drop (i + 1) := by
  rw [List.drop_eq_getElem_cons h, List.getD_eq_getElem?_getD, List.getElem?_eq_getElem h]; rfl
theorem take_getD (l : List UInt8) (i : Nat) (h : i < l.length) : l.take (i + 1) = l.take i ++ [l.getD i 0] := by
  rw [List.take_succ_eq_append_getElem h, List.getD_eq_getElem?_getD, List.getElem?_eq_getElem h]; rfl
theorem At.dead {l : List UInt8} {i : Nat} {m : Mac} (h : At l i m) (hi : i < l.length) (h9 : nxt m.st (l.getD i 0) = 99) : (textS l).1 = false ∧ (textS l).2 = i := by
  have ho := h.out
  rw [drop_getD l i hi, outA_dead h9] at ho
  obtain ⟨g1, g2⟩ := outA_text l
  have hf : (outA 0 l).1 = false := by rw [ho]
  exact ⟨by rw [← g1, hf], by rw [← g2 hf, ho]; rfl⟩
theorem At.step {l : List UInt8} {i : Nat} {m : Mac} (h : At l i m) (hi : i < l.length) (h9 : nxt m.st (l.getD i 0) ≠ 99) : At l (i + 1) (m.step (l.getD i 0)) := by
  refine ⟨by rw [take_getD l i hi, run_snoc, h.run], nxt_live h.live _ h9, h.inv.step _, ?_⟩
  have ho := h.out
  rw [drop_getD l i hi, outA_go rfl h9] at ho
  rw [ho]
  show _ = ((outA (nxt m.st (l.getD i 0)) (l.drop (i + 1))).1, _)
  congr 1
  show _ = i + 1 + (outA (nxt m.st (l.getD i 0)) (l.drop (i + 1))).2
  omega
theorem At.done {l : List UInt8} {m : Mac} (h : At l l.length m) : (textS l).1 = over m.st ∧ (over m.st = false → (textS l).2 = l.length) := by
  have ho := h.out
  rw [List.drop_length, outA_nil] at ho
  obtain ⟨g1, g2⟩ := outA_text l
  refine ⟨by rw [← g1, ho], fun hf => ?_⟩
  have hf' : (outA 0 l).1 = false := by rw [ho]; exact hf
  rw [← g2 hf', ho]
  rfl
theorem At.text {l : List UInt8} {m : Mac} (h : At l l.length m) (hok : (textS l).1 = true) : ((10 ≤ m.st ∧ textV CR l = ⟨m.st / 10 + 1, m.neg, 0, 0, 0, false⟩) ∨
    (m.st < 10 ∧ textV CR l = itemV m.neg m.ds ((if m.less = true then -(m.ex : Int) else (m.ex : Int)) - (m.bh : Int)))) := by
  have hr := h.run
  rw [List.take_length] at hr
  have := run_text l hok
  rw [hr] at this
  exact this
end Go.Cal
namespace Go.Proofs.YtncfbleeidjflaaGreatDoor
open Go.RowKit Go.Cal
theorem pItemN.less {b b' : Nat} {v : Value} {it : Cal.Item} {w : World} (h : pItemN b' v it w) (hb : b ≤ b') : pItemN b v it w := by
  obtain ⟨A, c, zs, e, h1, h2, h3, h4, h5, h6⟩ := h
  exact ⟨A, c, zs, e, h1, h2, h3, h4, h5, h6.imp id (fun ⟨x, off, e, hx⟩ => ⟨x, off, e, Nat.le_trans hb hx⟩)⟩
/-- What the document's Scan tells. -/
def RScanOut (w : World) (l : List UInt8) (e : Ending) (w' : World) : Prop :=
  (((textS l).1 = true ∧ ∃ v, e = .returned (.tuple #[v, .int .i64 0, .int .i64 0]) ∧ pItemN w.heap.size v (textV CR l) w') ∨ ((textS l).1 = false ∧ e = .returned (.tuple #[.agg #[.int .i64 0, .bool false, .slice none 0 0, .int .i64 0, .int .i64 0, .bool false], .int .i64 ((textS l).2 : Nat), .int .i64 2]))) ∧ Below w.heap.size w w'
theorem strL_at (l : List UInt8) (i : Nat) (h : i < l.length) : (strL l).extract i (i + 1) = strL [l.getD i 0] := by
  unfold strL
  apply ByteArray.ext
  apply Array.toList_inj.1
  rw [ByteArray.data_extract, Array.toList_extract]
  simp [List.extract_eq_take_drop, drop_getD l i h]
set_option maxRecDepth 100000 in
set_option maxHeartbeats 6000000 in
theorem rscan_any (l : List UInt8) (hl : l.length ≤ 100000) (w : World) : Calls Tryz.prog 39 #[.string (strL l)] w (RScanOut w l) := by
  obtain ⟨n, hn⟩ : ∃ n, l.length = n := ⟨_, rfl⟩
  have hsz := strL_size l
  rw [hn] at hsz hl
  have hbw : ∀ ds cs, Below w.heap.size w ((w.alloc (.cells ds 76)).alloc (.cells cs 76)) := fun _ cs => ((Below.refl _ _).alloc (Nat.le_refl _) _).alloc (by simp) _
  go_enter Tryz.func39, Tryz.ntmps39
  go_wp2
  go_loopg [5, 7, 8, 9, 10, 11] n (fun g sv dv xv bv lv iv wr => ∃ (i : Nat) (m : Mac), iv = .int .i64 i ∧ i + g = n ∧ sv = .int .i64 (m.st : Nat) ∧ dv = .string (strL m.ds) ∧ xv = .int .i64 (m.ex : Nat) ∧ bv = .int .i64 (m.bh : Nat) ∧ lv = .bool m.less ∧ At l i m ∧ wr = (w.alloc (.cells #[.int .i64 0, .bool false, .slice none 0 0, .int .i64 0, .int .i64 0, .bool false] 76)).alloc (.cells #[.int .i64 0, .bool m.neg, .slice none 0 0, .int .i64 0, .int .i64 0, .bool false] 76))
  case atStart => exact ⟨0, mac0, rfl, by omega, rfl, rfl, rfl, rfl, rfl, .zero l, rfl⟩
  case round =>
    obtain ⟨i, m, rfl, hik, rfl, rfl, rfl, rfl, rfl, hAt, rfl⟩ := hrel
    obtain ⟨st, ng, D, ex, bh, ls⟩ := m
    obtain ⟨iex, ibh, ilen, idig⟩ := hAt.inv
    have hlive := hAt.live
    simp only at iex ibh ilen idig hlive ⊢
    have iexb : ex ≤ 1099511627776 := iex
    by_cases hk0 : gk = 0
    · obtain rfl : i = n := by omega
      have hAt' : At l l.length ⟨st, ng, D, ex, bh, ls⟩ := by rw [hn]; exact hAt
      obtain ⟨hok1, hok2⟩ := hAt'.done
      have htx := hAt'.text
      have hwh := fun w => whole_any st hlive w
      have hst : st ≤ 32 := by
        simp only [liveL, List.mem_cons, List.not_mem_nil, or_false] at hlive
        omega
      simp only at hok1 hok2 htx
      have hbl : bh ≤ 100000 := by omega
      have hDl : D.length ≤ 1000000 := by omega
      clear hAt hAt' hlive
      by_cases hov : over st = true
      · rw [hov] at hok1 hwh
        have htx := htx hok1
        replace hwh := Lib.hid hwh
        replace hok1 := Lib.hid hok1
        clear hok2 hov
        rcases htx with ⟨h10, htv⟩ | ⟨h10, htv⟩
        · have h10i : (10 : Int) ≤ (st : Int) := by omega
          obtain ⟨q, hq⟩ : ∃ q : Nat, st / 10 = q := ⟨_, rfl⟩
          have hq1 : (st : Int) / 10 = (q : Int) := by omega
          have hq2 : Int.tdiv (st : Int) 10 = (q : Int) := by rw [Int.tdiv_eq_ediv_of_nonneg (by omega)]; exact hq1
          have hqb : q ≤ 10 := by omega
          rw [hq] at htv
          replace htv := Lib.hid htv
          replace hq := Lib.hid hq
          go_wp2_with fail
          refine (hwh.out _).mono ?_
          rintro e w1 ⟨rfl, rfl⟩
          go_wp2
          refine bodyPost_ret (v := .tuple #[.agg #[.int .i64 ((q + 1 : Nat) : Int), .bool ng, .slice none 0 0, .int .i64 0, .int .i64 0, .bool false], .int .i64 0, .int .i64 0]) (by simp [results, Tryz.results39, go_sem]) rfl ⟨.inl ⟨hok1.out, _, rfl, by rw [htv.out]; exact pItemN.nil _ _ _ _ _ _ _⟩, hbw _ _⟩
        · have h10i : ¬ (10 : Int) ≤ (st : Int) := by omega
          have hB0 : pBlk w.heap.size #[.int .i64 0, .bool false, .slice none 0 0, .int .i64 0, .int .i64 0, .bool false] 76 ((w.alloc (.cells #[.int .i64 0, .bool false, .slice none 0 0, .int .i64 0, .int .i64 0, .bool false] 76)).alloc (.cells #[.int .i64 1, .bool ng, .slice none 0 0, .int .i64 0, .int .i64 0, .bool false] 76)) := (pBlk_made w #[.int .i64 0, .bool false, .slice none 0 0, .int .i64 0, .int .i64 0, .bool false] 76).alloc _
          have hs0 : ((w.alloc (.cells #[.int .i64 0, .bool false, .slice none 0 0, .int .i64 0, .int .i64 0, .bool false] 76)).alloc (.cells #[.int .i64 1, .bool ng, .slice none 0 0, .int .i64 0, .int .i64 0, .bool false] 76)).heap.size = w.heap.size + 2 := by simp
          have hbw0 := hbw #[.int .i64 0, .bool false, .slice none 0 0, .int .i64 0, .int .i64 0, .bool false] #[.int .i64 1, .bool ng, .slice none 0 0, .int .i64 0, .int .i64 0, .bool false]
          cases ls
          · rw [if_neg (by decide)] at htv
            have hof := fun w => rof_any ng D idig hDl ((ex : Int) - (bh : Int)) ⟨by omega, by omega⟩ w
            replace htv := Lib.hid htv
            replace hof := Lib.hid hof
            replace hB0 := Lib.hid hB0
            replace hs0 := Lib.hid hs0
            replace hbw0 := Lib.hid hbw0
            go_wp2_with fail
            refine (hwh.out _).mono ?_
            rintro e w1 ⟨rfl, rfl⟩
            go_wp2_with fail
            refine (hof.out _).mono ?_
            rintro e w2 ⟨v, rfl, hv, hb⟩
            obtain ⟨A', c', zs, rfl, hrest⟩ := id hv
            have hB := pBlk_st _ _ _ _ _ hB0.out hb
            have hbw2 := chain hbw0.out hb
            have hv2 := hv.less (b := w.heap.size + 2) (by rw [hs0.out]; exact Nat.le_refl _)
            have q0 := hB.cell 0 _ rfl
            have q1 := hB.cell 1 _ rfl
            have q2 := hB.cell 2 _ rfl
            have q3 := hB.cell 3 _ rfl
            have q4 := hB.cell 4 _ rfl
            have q5 := hB.cell 5 _ rfl
            have f0 := hB.free 0
            have f1 := hB.free 1
            have f2 := hB.free 2
            have f3 := hB.free 3
            have f4 := hB.free 4
            have f5 := hB.free 5
            have hlt := hB.lt
            clear hB hb hv hrest
            go_wp2
            refine bodyPost_ret (v := .tuple #[.agg #[.int .i64 ((itemV ng D ((ex : Int) - (bh : Int))).kind : Nat), .bool (itemV ng D ((ex : Int) - (bh : Int))).neg, .slice A' zs.length c', .int .i64 (itemV ng D ((ex : Int) - (bh : Int))).k, .int .i64 (itemV ng D ((ex : Int) - (bh : Int))).big, .bool (itemV ng D ((ex : Int) - (bh : Int))).cut], .int .i64 0, .int .i64 0]) (by simp [results, Tryz.results39, go_sem, q0, q1, q2, q3, q4, q5]) rfl ⟨.inl ⟨hok1.out, _, rfl, ?_⟩, ?_⟩
            · rw [htv.out]
              refine pItemN.less ?_ (show w.heap.size ≤ w.heap.size + 2 by omega)
              repeat (refine pItemN.setCell _ ?_ (by show w.heap.size < w.heap.size + 2; omega))
              exact hv2
            · repeat (refine Below.setCell ?_ (by exact Nat.le_refl _) _)
              exact hbw2
          · rw [if_pos rfl] at htv
            have hof := fun w => rof_any ng D idig hDl (-(ex : Int) - (bh : Int)) ⟨by omega, by omega⟩ w
            replace htv := Lib.hid htv
            replace hof := Lib.hid hof
            replace hB0 := Lib.hid hB0
            replace hs0 := Lib.hid hs0
            replace hbw0 := Lib.hid hbw0
            go_wp2_with fail
            refine (hwh.out _).mono ?_
            rintro e w1 ⟨rfl, rfl⟩
            go_wp2_with fail
            refine (hof.out _).mono ?_
            rintro e w2 ⟨v, rfl, hv, hb⟩
            obtain ⟨A', c', zs, rfl, hrest⟩ := id hv
            have hB := pBlk_st _ _ _ _ _ hB0.out hb
            have hbw2 := chain hbw0.out hb
            have hv2 := hv.less (b := w.heap.size + 2) (by rw [hs0.out]; exact Nat.le_refl _)
            have q0 := hB.cell 0 _ rfl
            have q1 := hB.cell 1 _ rfl
            have q2 := hB.cell 2 _ rfl
            have q3 := hB.cell 3 _ rfl
            have q4 := hB.cell 4 _ rfl
            have q5 := hB.cell 5 _ rfl
            have f0 := hB.free 0
            have f1 := hB.free 1
            have f2 := hB.free 2
            have f3 := hB.free 3
            have f4 := hB.free 4
            have f5 := hB.free 5
            have hlt := hB.lt
            clear hB hb hv hrest
            go_wp2
            refine bodyPost_ret (v := .tuple #[.agg #[.int .i64 ((itemV ng D (-(ex : Int) - (bh : Int))).kind : Nat), .bool (itemV ng D (-(ex : Int) - (bh : Int))).neg, .slice A' zs.length c', .int .i64 (itemV ng D (-(ex : Int) - (bh : Int))).k, .int .i64 (itemV ng D (-(ex : Int) - (bh : Int))).big, .bool (itemV ng D (-(ex : Int) - (bh : Int))).cut], .int .i64 0, .int .i64 0]) (by simp [results, Tryz.results39, go_sem, q0, q1, q2, q3, q4, q5]) rfl ⟨.inl ⟨hok1.out, _, rfl, ?_⟩, ?_⟩
            · rw [htv.out]
              refine pItemN.less ?_ (show w.heap.size ≤ w.heap.size + 2 by omega)
              repeat (refine pItemN.setCell _ ?_ (by show w.heap.size < w.heap.size + 2; omega))
              exact hv2
            · repeat (refine Below.setCell ?_ (by exact Nat.le_refl _) _)
              exact hbw2
      · have hov' : over st = false := by simpa using hov
        rw [hov'] at hok1 hwh
        have hok2 := hok2 hov'
        replace hwh := Lib.hid hwh
        replace hok1 := Lib.hid hok1
        replace hok2 := Lib.hid hok2
        clear hov hov' htx
        go_wp2_with fail
        refine (hwh.out _).mono ?_
        rintro e w1 ⟨rfl, rfl⟩
        go_wp2
        refine bodyPost_ret (v := .tuple #[.agg #[.int .i64 0, .bool false, .slice none 0 0, .int .i64 0, .int .i64 0, .bool false], .int .i64 (i : Nat), .int .i64 2]) (by simp [results, Tryz.results39, go_sem]) rfl ⟨.inr ⟨hok1.out, by rw [hok2.out, hn]⟩, hbw _ _⟩
    · have hin : (i : Int) < (n : Int) := by omega
      have hil : i < l.length := by omega
      obtain ⟨c, hc⟩ : ∃ c, l.getD i 0 = c := ⟨_, rfl⟩
      have hg : ∀ h : i < (strL l).size, (strL l)[i] = c := fun h => by rw [strL_get, hc]
      have hxt : (strL l).extract i (i + 1) = strL [c] := by rw [strL_at l i hil, hc]
      have hdead := hAt.dead hil
      have hstep := hAt.step hil
      rw [hc] at hdead hstep
      obtain ⟨s', hs'⟩ : ∃ s, nxt st c = s := ⟨_, rfl⟩
      have hnx : ∀ w, Calls Tryz.prog 100 #[.int .i64 (st : Nat), .int .u8 ((c.toNat : Nat) : Int)] w fun e w' => e = .returned (.int .i64 (s' : Nat)) ∧ w = w' := fun w => by
        have := next_any st c hlive w
        unfold NextTells at this
        rw [hs'] at this
        exact this
      simp only at hdead hstep
      rw [hs'] at hdead hstep
      have hDs := strL_size D
      have hcs : (strL [c]).size = 1 := strL_size [c]
      have hcat : strL D ++ strL [c] = strL (D ++ [c]) := by
        unfold strL
        apply ByteArray.ext
        simp
      have hDl : D.length ≤ 100000 := by omega
      have hbl : bh ≤ 100000 := by omega
      have hS8 := @nxt_8 st c
      rw [hs'] at hS8
      replace hnx := Lib.hid hnx
      replace hdead := Lib.hid hdead
      replace hstep := Lib.hid hstep
      replace hc := Lib.hid hc
      replace hs' := Lib.hid hs'
      replace hS8 := Lib.hid hS8
      clear hAt hlive
      by_cases e99 : s' = 99
      · subst e99
        go_wp2_with fail
        refine (hnx.out _).mono ?_
        rintro e w1 ⟨rfl, rfl⟩
        obtain ⟨d1, d2⟩ := hdead.out trivial
        replace d1 := Lib.hid d1
        replace d2 := Lib.hid d2
        go_wp2
        refine bodyPost_ret (v := .tuple #[.agg #[.int .i64 0, .bool false, .slice none 0 0, .int .i64 0, .int .i64 0, .bool false], .int .i64 (i : Nat), .int .i64 2]) (by simp [results, Tryz.results39, go_sem]) rfl ⟨.inr ⟨d1.out, by rw [d2.out]⟩, hbw _ _⟩
      · by_cases e1 : s' = 1
        · subst e1
          have hA := hstep.out (by decide)
          go_wp2_with fail
          refine (hnx.out _).mono ?_
          rintro e w1 ⟨rfl, rfl⟩
          go_wp2
          go_roundg (gk - 1)
          case measure => omega
          case rel => exact ⟨i + 1, ⟨1, true, D, ex, bh, ls⟩, by go_num, by omega, rfl, rfl, rfl, rfl, rfl, by have := hA; unfold Mac.step at this; simpa [hs'.out] using this, rfl⟩
        · by_cases e2 : s' = 2
          · subst e2
            have hA := hstep.out (by decide)
            go_wp2_with fail
            refine (hnx.out _).mono ?_
            rintro e w1 ⟨rfl, rfl⟩
            go_wp2
            go_roundg (gk - 1)
            case measure => omega
            case rel => exact ⟨i + 1, ⟨2, ng, D ++ [c], ex, bh, ls⟩, by go_num, by omega, rfl, rfl, rfl, by go_num, rfl, by have := hA; unfold Mac.step at this; simpa [hs'.out] using this, rfl⟩
          · by_cases e5 : s' = 5
            · subst e5
              have hA := hstep.out (by decide)
              go_wp2_with fail
              refine (hnx.out _).mono ?_
              rintro e w1 ⟨rfl, rfl⟩
              go_wp2
              go_roundg (gk - 1)
              case measure => omega
              case rel => exact ⟨i + 1, ⟨5, ng, D ++ [c], ex, bh + 1, ls⟩, by go_num, by omega, rfl, rfl, rfl, by go_num, rfl, by have := hA; unfold Mac.step at this; simpa [hs'.out] using this, rfl⟩
            · by_cases e7 : s' = 7
              · subst e7
                by_cases h45 : c = 45
                · replace h45 := Lib.hid h45
                  have hA := hstep.out (by decide)
                  go_wp2_with fail
                  refine (hnx.out _).mono ?_
                  rintro e w1 ⟨rfl, rfl⟩
                  have hci : ((c.toNat : Nat) : Int) = 45 := by rw [h45.out]; rfl
                  go_wp2
                  go_roundg (gk - 1)
                  case measure => omega
                  case rel => exact ⟨i + 1, ⟨7, ng, D, ex, bh, true⟩, by go_num, by omega, rfl, rfl, rfl, by go_num, rfl, by have := hA; unfold Mac.step at this; simpa [hs'.out, show (c == 45) = true from beq_iff_eq.2 h45.out] using this, rfl⟩
                · have hci : ¬ ((c.toNat : Nat) : Int) = 45 := fun e => h45 (UInt8.toNat_inj.1 (by show c.toNat = 45; omega))
                  have hcb : (((c.toNat : Nat) : Int) == 45) = false := beq_eq_false_iff_ne.2 hci
                  have hcb2 : (c == 45) = false := beq_eq_false_iff_ne.2 h45
                  have hA := hstep.out (by decide)
                  go_wp2_with fail
                  refine (hnx.out _).mono ?_
                  rintro e w1 ⟨rfl, rfl⟩
                  go_wp2
                  go_roundg (gk - 1)
                  case measure => omega
                  case rel => exact ⟨i + 1, ⟨7, ng, D, ex, bh, false⟩, by go_num, by omega, rfl, rfl, rfl, by go_num, rfl, by have := hA; unfold Mac.step at this; simpa [hs'.out, hcb2] using this, rfl⟩
              · by_cases e8 : s' = 8
                · subst e8
                  have hA := hstep.out (by decide)
                  have hdg := hS8.out rfl
                  have hd1 : 48 ≤ c.toNat ∧ c.toNat ≤ 57 := by unfold isDig at hdg; simp at hdg; omega
                  obtain ⟨ex', hex'⟩ : ∃ q, min (10 * ex + c.toNat - 48) CR = q := ⟨_, rfl⟩
                  have hmn : min ((10 : Int) * (ex : Int) + ((c.toNat : Nat) : Int) - 48) 1099511627776 = (ex' : Int) := by rw [← hex']; unfold CR; omega
                  obtain ⟨hd2, hd3⟩ := hd1
                  replace hex' := Lib.hid hex'
                  clear hdg
                  go_wp2_with fail
                  refine (hnx.out _).mono ?_
                  rintro e w1 ⟨rfl, rfl⟩
                  go_wp2
                  go_roundg (gk - 1)
                  case measure => omega
                  case rel => exact ⟨i + 1, ⟨8, ng, D, ex', bh, ls⟩, by go_num, by omega, rfl, rfl, rfl, by go_num, rfl, by have := hA; unfold Mac.step at this; simpa [hs'.out, hex'.out] using this, rfl⟩
                · have hA := hstep.out e99
                  have i99 : ¬ (s' : Int) = 99 := by omega
                  have i1 : ¬ (s' : Int) = 1 := by omega
                  have i2 : ¬ (s' : Int) = 2 := by omega
                  have i5 : ¬ (s' : Int) = 5 := by omega
                  have i7 : ¬ (s' : Int) = 7 := by omega
                  have i8 : ¬ (s' : Int) = 8 := by omega
                  have j99 : ((s' : Int) == 99) = false := beq_eq_false_iff_ne.2 i99
                  have j1 : ((s' : Int) == 1) = false := beq_eq_false_iff_ne.2 i1
                  have j2 : ((s' : Int) == 2) = false := beq_eq_false_iff_ne.2 i2
                  have j5 : ((s' : Int) == 5) = false := beq_eq_false_iff_ne.2 i5
                  have j7 : ((s' : Int) == 7) = false := beq_eq_false_iff_ne.2 i7
                  have j8 : ((s' : Int) == 8) = false := beq_eq_false_iff_ne.2 i8
                  go_wp2_with fail
                  refine (hnx.out _).mono ?_
                  rintro e w1 ⟨rfl, rfl⟩
                  go_wp2
                  go_roundg (gk - 1)
                  case measure => omega
                  case rel => exact ⟨i + 1, ⟨s', ng, D, ex, bh, ls⟩, by go_num, by omega, rfl, rfl, rfl, rfl, rfl, by have := hA; unfold Mac.step at this; simpa [hs'.out, e1, e2, e5, e7, e8] using this, rfl⟩
theorem rscan_yes (l : List UInt8) (it : Cal.Item) (hok : (textS l).1 = true) (hit : textV CR l = it) (hl : l.length ≤ 100000) (w : World) : Calls Tryz.prog 39 #[.string (strL l)] w fun e w' =>
    ∃ A' n' c', e = .returned (.tuple #[.agg #[.int .i64 (it.kind : Nat), .bool it.neg, .slice A' n' c', .int .i64 it.k, .int .i64 it.big, .bool it.cut], .int .i64 0, .int .i64 0]) ∧ pItemN w.heap.size (.agg #[.int .i64 (it.kind : Nat), .bool it.neg, .slice A' n' c', .int .i64 it.k, .int .i64 it.big, .bool it.cut]) it w' ∧ Below w.heap.size w w' := by
  subst hit
  refine (rscan_any l hl w).mono ?_
  rintro e w' ⟨⟨_, v, rfl, hv⟩ | ⟨hno, _⟩, hb⟩
  · obtain ⟨A', c', zs, rfl, h⟩ := id hv
    exact ⟨_, _, _, rfl, hv, hb⟩
  · rw [hok] at hno; cases hno
theorem rscan_no (l : List UInt8) (p : Nat) (hok : (textS l).1 = false) (hp : (textS l).2 = p) (hl : l.length ≤ 100000) (w : World) : Calls Tryz.prog 39 #[.string (strL l)] w fun e w' =>
    e = .returned (.tuple #[.agg #[.int .i64 0, .bool false, .slice none 0 0, .int .i64 0, .int .i64 0, .bool false], .int .i64 p, .int .i64 2]) ∧ Below w.heap.size w w' := by
  subst hp
  refine (rscan_any l hl w).mono ?_
  rintro e w' ⟨⟨hy, _⟩ | ⟨_, rfl⟩, hb⟩
  · rw [hok] at hy; cases hy
  · exact ⟨rfl, hb⟩
end Go.Proofs.YtncfbleeidjflaaGreatDoor
