/- Scan, second part: numbers. Conditions: a text's reach. -/
import Derived.Test.YtncfbleeidjflaaGreatDoorTx16
import Derived.Test.YtncfbleeidjflaaGreatDoorTx05
import Derived.Test.YtncfbleeidjflaaGreatDoorTx03
namespace Go.Proofs.YtncfbleeidjflaaGreatDoor
open Go.RowKit Go.Cal
theorem take_snocB (l : List UInt8) (i : Nat) (h : i < l.length) : l.take (i + 1) = l.take i ++ [l.getD i 0] := by
  rw [List.take_succ_eq_append_getElem h, List.getD_eq_getElem?_getD, List.getElem?_eq_getElem h]; rfl
def digAt (l : List UInt8) (p : Nat) : Bool := decide (p < l.length) && isDig (l.getD p 0)
/-- The text, and how far it is read: two variables that lie in memory. -/
structure Box (w : World) (l : List UInt8) (p : Nat) (wr : World) : Prop where
  s : wr.cell? ⟨w.heap.size, 0, none⟩ = some (.string (strL l))
  a : wr.cell? ⟨w.heap.size + 1, 0, none⟩ = some (.int .i64 p)
  fz : wr.frozen? ⟨w.heap.size + 1, 0, none⟩ = false
  below : Below w.heap.size w wr
theorem Box.step {w wr : World} {l : List UInt8} {p : Nat} (h : Box w l p wr) (p' : Nat) : Box w l p' (wr.setCell ⟨w.heap.size + 1, 0, none⟩ (.int .i64 p')) := by
  refine ⟨?_, World.cell?_setCell_same' wr _ _ (by rw [h.a]; rfl), by simpa using h.fz, h.below.setCell (by show _ ≤ _ + 1; omega) _⟩
  rw [World.cell?_setCell_other _ _ _ _ (fun e => by have := congrArg Addr.block e; simp at this)]
  exact h.s
theorem Box.drawn {w wr : World} {l : List UInt8} {p : Nat} (h : Box w l p wr) (n : Nat) : Box w l p (wr.drewN n) :=
  ⟨by simpa using h.s, by simpa using h.a, by simpa using h.fz, h.below.trans (Drawn.below ⟨n, rfl⟩ _)⟩
theorem digf_any {w wr : World} {l : List UInt8} {p : Nat} (h : Box w l p wr) :
    Calls Tryz.prog 162 #[.pointer (some ⟨w.heap.size + 1, 0, none⟩), .pointer (some ⟨w.heap.size, 0, none⟩)] wr fun e w' => e = .returned (.bool (digAt l p)) ∧ wr = w' := by
  obtain ⟨hs, ha, hf, hb⟩ := h
  have hsz := strL_size l
  have hget := strL_get l
  obtain ⟨s, hse⟩ : ∃ s, strL l = s := ⟨_, rfl⟩
  rw [hse] at hs hsz hget
  replace hse := Lib.hid hse
  clear hb hf
  by_cases hp : p < l.length
  · have hp1 : (p : Int) < (l.length : Int) := by omega
    have hg := hget p (by rw [hsz]; exact hp)
    obtain ⟨c, hc⟩ : ∃ c, l.getD p 0 = c := ⟨_, rfl⟩
    have hd : digAt l p = isDig c := by unfold digAt; rw [decide_eq_true hp, hc]; rfl
    rw [hc] at hg
    rw [hd]
    clear hget hd
    by_cases h1 : 48 ≤ c.toNat
    · by_cases h2 : c.toNat ≤ 57
      · have hr : isDig c = true := by unfold isDig; simp [h1, h2]
        have h1' : 48 ≤ (c.toNat : Int) := by omega
        have h2' : (c.toNat : Int) ≤ 57 := by omega
        rw [hr]
        go_enter Tryz.func162, Tryz.ntmps162
        go_wp2
        go_ret
        exact ⟨rfl, rfl⟩
      · have hr : isDig c = false := by unfold isDig; simp [h1, h2]
        have h1' : 48 ≤ (c.toNat : Int) := by omega
        have h2' : ¬ (c.toNat : Int) ≤ 57 := by omega
        rw [hr]
        go_enter Tryz.func162, Tryz.ntmps162
        go_wp2
        go_ret
        exact ⟨rfl, rfl⟩
    · have hr : isDig c = false := by unfold isDig; simp [h1]
      have h1' : ¬ 48 ≤ (c.toNat : Int) := by omega
      rw [hr]
      go_enter Tryz.func162, Tryz.ntmps162
      go_wp2
      go_ret
      exact ⟨rfl, rfl⟩
  · have hp1 : ¬ (p : Int) < (l.length : Int) := by omega
    have hd : digAt l p = false := by unfold digAt; rw [decide_eq_false hp]; rfl
    rw [hd]
    clear hget
    go_enter Tryz.func162, Tryz.ntmps162
    go_wp2
    go_ret
    exact ⟨rfl, rfl⟩
/-- What number tells. -/
def NumOut (w : World) (t : List UInt8) (f : Nat) (e : Ending) (w' : World) : Prop :=
  (((numS t).1 = true ∧ ∃ x, e = .returned (.tuple #[.string (strL (numD t)), .int .i64 (numB t : Nat), .int .i64 (expV 1125899906842624 (numR t)), x, .bool true])) ∨
    ((numS t).1 = false ∧ ∃ a b c, e = .returned (.tuple #[a, b, c, .int .i64 ((f + (numS t).2 : Nat) : Int), .bool false]))) ∧ Below w.heap.size w w'
theorem numOut_no {w w' : World} {t : List UInt8} {f p k : Nat} {a b c : Value} (h : numS t = (false, k)) (hp : p = f + k) (hb : Below w.heap.size w w') : NumOut w t f (.returned (.tuple #[a, b, c, .int .i64 p, .bool false])) w' :=
  ⟨.inr ⟨by rw [h], a, b, c, by rw [h, hp]⟩, hb⟩
theorem numOut_yes {w w' : World} {t : List UInt8} {f b : Nat} {D : List UInt8} {x : Value} {e : Int} {o : Bool} (h : (numS t).1 = true) (hD : D = numD t) (hbh : b = numB t) (he : e = expV 1125899906842624 (numR t)) (ho : o = true) (hb : Below w.heap.size w w') :
    NumOut w t f (.returned (.tuple #[.string (strL D), .int .i64 b, .int .i64 e, x, .bool o])) w' := by
  subst hD; subst hbh; subst he; subst ho
  exact ⟨.inl ⟨h, x, rfl⟩, hb⟩
set_option maxRecDepth 100000 in
set_option maxHeartbeats 8000000 in
theorem snum_any (l : List UInt8) (hl : l.length ≤ maxLen) (f : Nat) (hf : f ≤ l.length) (w : World) : Calls Tryz.prog 87 #[.string (strL l), .int .i64 f] w (NumOut w (l.drop f) f) := by
  obtain ⟨t, ht⟩ : ∃ t, l.drop f = t := ⟨_, rfl⟩
  have htl : t.length = l.length - f := by rw [← ht, List.length_drop]
  rw [ht]
  have hbox : Box w l f ((w.alloc (.cells #[.string (strL l)] 9)).alloc (.cells #[.int .i64 f] 3)) := ⟨by simp, by simp, by simp, ((Below.refl _ _).alloc (Nat.le_refl _) _).alloc (by simp) _⟩
  obtain ⟨d1, hd1⟩ : ∃ d, t.takeWhile isDig = d := ⟨_, rfl⟩
  have hmf : ∀ (fn : Fn) (first cap : Array Value) (w : World), (Instr.makeFunc fn first cap).run Tryz.prog w = .ok (.func fn first cap) w := fun _ _ _ _ => rfl
  replace ht := Lib.hid ht
  replace hd1 := Lib.hid hd1
  go_enter Tryz.func87, Tryz.ntmps87
  go_wp2
  refine wp_scope_three 0 1 2 rfl rfl rfl
    (fun a' w' => ∃ p : Nat, Fr 121 a' [(0, .string (strL l)), (1, .int .i64 f), (2, .pointer (some ⟨w.heap.size, 0, none⟩)), (3, .pointer (some ⟨w.heap.size + 1, 0, none⟩)), (4, .string (strL [])), (5, .int .i64 0), (6, .int .i64 0), (7, .int .i64 0), (8, .bool false), (9, .int .i64 f), (10, .int .i64 0), (11, .func (Fn.func 162) #[] #[.pointer (some ⟨w.heap.size + 1, 0, none⟩), .pointer (some ⟨w.heap.size, 0, none⟩)]), (12, .bool false)] ∧ Box w l p w' ∧ f ≤ p ∧ p ≤ f + d1.length)
    (fun a' w' => ∃ p : Nat, Fr 121 a' [(0, .string (strL l)), (1, .int .i64 f), (2, .pointer (some ⟨w.heap.size, 0, none⟩)), (3, .pointer (some ⟨w.heap.size + 1, 0, none⟩)), (4, .string (strL (numD t))), (5, .int .i64 (numB t : Nat)), (6, .int .i64 0), (7, .int .i64 0), (8, .bool false), (10, .int .i64 0), (11, .func (Fn.func 162) #[] #[.pointer (some ⟨w.heap.size + 1, 0, none⟩), .pointer (some ⟨w.heap.size, 0, none⟩)]), (12, .bool false)] ∧ Box w l p w' ∧ p = f + numP t ∧ l.drop p = numR t)
    (fun a' w' => ∃ p : Nat, Fr 121 a' [(0, .string (strL l)), (1, .int .i64 f), (2, .pointer (some ⟨w.heap.size, 0, none⟩)), (3, .pointer (some ⟨w.heap.size + 1, 0, none⟩)), (4, .string (strL d1)), (5, .int .i64 0), (6, .int .i64 0), (7, .int .i64 0), (8, .bool false), (9, .int .i64 ((f + (d1.length + 1) : Nat) : Int)), (10, .int .i64 0), (11, .func (Fn.func 162) #[] #[.pointer (some ⟨w.heap.size + 1, 0, none⟩), .pointer (some ⟨w.heap.size, 0, none⟩)]), (12, .bool false)] ∧ Box w l p w' ∧ f + d1.length + 1 ≤ p ∧ p ≤ f + numP t ∧ ∃ r, t.dropWhile isDig = 46 :: r)
    (fun _ w' => l.length - (intOf ((w'.cell? ⟨w.heap.size + 1, 0, none⟩).getD (.int .i64 0))).toNat)
    (fun _ w' => l.length - (intOf ((w'.cell? ⟨w.heap.size + 1, 0, none⟩).getD (.int .i64 0))).toNat) ?_ ?_ ?_ ?_
  · rintro a' w' ⟨p, hF, hB, hp, hr⟩ Q' hret -
    obtain ⟨u, hu⟩ := hF.lit
    replace hu : a' = { tmps := #[.string (strL l), .int .i64 f, .pointer (some ⟨w.heap.size, 0, none⟩), .pointer (some ⟨w.heap.size + 1, 0, none⟩), .string (strL (numD t)), .int .i64 (numB t : Nat), .int .i64 0, .int .i64 0, .bool false, u 9, .int .i64 0, .func (Fn.func 162) #[] #[.pointer (some ⟨w.heap.size + 1, 0, none⟩), .pointer (some ⟨w.heap.size, 0, none⟩)], .bool false, u 13, u 14, u 15, u 16, u 17, u 18, u 19, u 20, u 21, u 22, u 23, u 24, u 25, u 26, u 27, u 28, u 29, u 30, u 31, u 32, u 33, u 34, u 35, u 36, u 37, u 38, u 39, u 40, u 41, u 42, u 43, u 44, u 45, u 46, u 47, u 48, u 49, u 50, u 51, u 52, u 53, u 54, u 55, u 56, u 57, u 58, u 59, u 60, u 61, u 62, u 63, u 64, u 65, u 66, u 67, u 68, u 69, u 70, u 71, u 72, u 73, u 74, u 75, u 76, u 77, u 78, u 79, u 80, u 81, u 82, u 83, u 84, u 85, u 86, u 87, u 88, u 89, u 90, u 91, u 92, u 93, u 94, u 95, u 96, u 97, u 98, u 99, u 100, u 101, u 102, u 103, u 104, u 105, u 106, u 107, u 108, u 109, u 110, u 111, u 112, u 113, u 114, u 115, u 116, u 117, u 118, u 119, u 120], defers := [] } := hu
    subst hu
    clear hF
    obtain ⟨bs, ba, bf, bb⟩ := id hB
    obtain ⟨D, hD⟩ : ∃ D, numD t = D := ⟨_, rfl⟩
    obtain ⟨bh, hbh⟩ : ∃ b, numB t = b := ⟨_, rfl⟩
    obtain ⟨r, hrr⟩ : ∃ r, numR t = r := ⟨_, rfl⟩
    have hS := numS_eq t
    rw [hD, hrr] at hS
    rw [hrr] at hr
    rw [hD, hbh]
    have hE : (strL D).toList.isEmpty = D.isEmpty := by unfold strL; rw [ByteArray.toList_mk]
    have hpl : p + r.length = l.length := by
      have := congrArg List.length hr
      rw [List.length_drop] at this
      have := numR_suffix t |>.length_le
      unfold numP at hp
      rw [hrr] at this hp
      omega
    have hsz := strL_size l
    have hget : ∀ (h : p < (strL l).size), (strL l)[p] = l.getD p 0 := fun h => strL_get l p h
    have hp9 : p ≤ 9223372036854775807 := by unfold maxLen at hl; omega
    unfold maxLen at hl
    replace hD := Lib.hid hD
    replace hbh := Lib.hid hbh
    replace hrr := Lib.hid hrr
    replace hS := Lib.hid hS
    replace hp := Lib.hid hp
    replace hr := Lib.hid hr
    replace hpl := Lib.hid hpl
    replace hget := Lib.hid hget
    by_cases hD0 : D = []
    · have hE1 : (strL D).toList.isEmpty = true := by rw [hE, hD0]; rfl
      have hS1 : numS t = (false, numP t) := by rw [hS.out, if_pos hD0]
      have bb2 : ∀ q, Below w.heap.size w (w'.drewN q) := fun q => bb.trans (Drawn.below ⟨q, rfl⟩ _)
      replace hD0 := Lib.hid hD0
      replace hS1 := Lib.hid hS1
      clear hE
      go_wp2_with fail
      go_quiet (fail)
      go_wp2
      (try simp only [Exit.inBlock, Exit.then]); refine bodyPost_ret (results_tmp5 rfl _ _ _) rfl ?_
      exact numOut_no hS1.out hp.out (bb2 _)
    · have hE1 : (strL D).toList.isEmpty = false := by rw [hE]; simpa using hD0
      have hS1 : numS t = ((expS r).1, numP t + (expS r).2) := by rw [hS.out, if_neg hD0]
      replace hD0 := Lib.hid hD0
      clear hE
      match r, hr, hpl, hrr, hS1 with
      | [], hr, hpl, hrr, hS1 =>
        have hple : p = l.length := by have := hpl.out; simpa using this
        have hlt : ¬ (p : Int) < (l.length : Int) := by omega
        have hpe : (p : Int) = (l.length : Int) := by omega
        have bb2 : ∀ q, Below w.heap.size w (w'.drewN q) := fun q => bb.trans (Drawn.below ⟨q, rfl⟩ _)
        have hok : (numS t).1 = true := by rw [hS1]; rfl
        replace hple := Lib.hid hple
        replace hok := Lib.hid hok
        replace hS1 := Lib.hid hS1
        go_wp2_with fail
        go_quiet (fail)
        go_wp2
        (try simp only [Exit.inBlock, Exit.then]); refine bodyPost_ret (results_tmp5 rfl _ _ _) rfl ?_
        refine numOut_yes hok.out hD.out.symm hbh.out.symm ?_ (by simp) (bb2 _)
        rw [hrr.out]; rfl
      | c :: r1, hr, hpl, hrr, hS1 =>
        have hpl' := hpl.out
        rw [List.length_cons] at hpl'
        have hlt : (p : Int) < (l.length : Int) := by omega
        have hg := hget.out (by rw [hsz]; omega)
        have hgc : l.getD p 0 = c := by
          have : (l.drop p).getD 0 0 = c := by rw [hr.out]; rfl
          rw [← this]
          simp [List.getD_eq_getElem?_getD, List.getElem?_drop]
        rw [hgc] at hg
        replace hgc := Lib.hid hgc
        by_cases hce : c = 101 ∨ c = 69
        · rw [expS_cons, if_pos hce] at hS1
          obtain ⟨q, hq⟩ : ∃ q, p + 1 = q := ⟨_, rfl⟩
          have hpq : (p : Int) + 1 = (q : Int) := by omega
          have hB1 := hB.step q
          obtain ⟨bs1, ba1, bf1, bb1⟩ := id hB1
          have hr1 : l.drop q = r1 := by
            have := congrArg (List.drop 1) hr.out
            rw [List.drop_drop] at this
            rw [← hq]
            exact this
          have hc' : (c.toNat : Int) = 101 ∨ (((c.toNat : Int) == 101) = false ∧ (c.toNat : Int) = 69) := by
            rcases hce with rfl | rfl
            · exact .inl rfl
            · exact .inr ⟨rfl, rfl⟩
          replace hce := Lib.hid hce
          rcases hc' with hc1 | ⟨hc1, hc2⟩
          · skip
            match r1, hr1, hrr, hS1, hpl' with
            | [], hr1, hrr, hS1, hpl' =>
              have hq2 : ¬ (q : Int) < (l.length : Int) := by simp at hpl'; omega
              have hql : q + ([] : List UInt8).length = l.length := by simp at hpl' ⊢; omega
              have hKq : q = f + (numP t + 1) := by have := hp.out; omega
              have hS3 : numS t = ((expN []).1, (numP t + 1) + (expN []).2) := by rw [hS1]; rfl
              have hV : expV 1125899906842624 [c] = ((expM 1125899906842624 [] : Nat) : Int) := rfl
              have hB2 := hB1
              obtain ⟨bs2, ba2, bf2, bb2⟩ := id hB2
              have hRq := Lib.hid hr1; clear hr1; replace hql := Lib.hid hql; replace hS3 := Lib.hid hS3; replace hV := Lib.hid hV; replace hS1 := Lib.hid hS1; replace hq := Lib.hid hq
              obtain ⟨d3, hd3⟩ : ∃ d, (([] : List UInt8)).takeWhile isDig = d := ⟨_, rfl⟩
              have hdig3 : ∀ zz ∈ d3, isDig zz = true := fun zz hzz => take_digs (([] : List UInt8)) zz (by rw [hd3]; exact hzz)
              have hd3l : d3.length ≤ (([] : List UInt8)).length := by rw [← hd3]; exact (List.takeWhile_prefix _).length_le
              have hdat : ∀ i, i < d3.length → q + i < l.length ∧ l.getD (q + i) 0 = d3.getD i 0 ∧ isDig (d3.getD i 0) = true := fun i hi => by
                have h1 : (([] : List UInt8)).getD i 0 = d3.getD i 0 := by
                  have h := List.prefix_iff_eq_append.1 (hd3 ▸ List.takeWhile_prefix (l := ([] : List UInt8)) isDig : d3 <+: ([] : List UInt8))
                  rw [← h]
                  simp [List.getD_eq_getElem?_getD]
                refine ⟨by have := hql.out; omega, ?_, ?_⟩
                · rw [← h1, ← hRq.out]
                  simp [List.getD_eq_getElem?_getD, List.getElem?_drop]
                · refine hdig3 _ ?_
                  rw [List.getD_eq_getElem?_getD, List.getElem?_eq_getElem hi]
                  exact List.getElem_mem hi
              have hend : digAt l (q + d3.length) = false := by
                unfold digAt
                have hsp := span_split (([] : List UInt8))
                rw [hd3] at hsp
                match hx : (([] : List UInt8)).dropWhile isDig with
                | [] =>
                  rw [hx, List.append_nil] at hsp
                  have : ¬ q + d3.length < l.length := by have := hql.out; rw [← hsp] at this; omega
                  rw [decide_eq_false this]; rfl
                | y :: ys =>
                  rw [hx] at hsp
                  have h1 : l.getD (q + d3.length) 0 = y := by
                    have : (l.drop q).getD d3.length 0 = y := by
                      rw [hRq.out, ← hsp]
                      simp [List.getD_eq_getElem?_getD]
                    rw [← this]
                    simp [List.getD_eq_getElem?_getD, List.getElem?_drop]
                  rw [h1, drop_head _ hx, Bool.and_false]
              have hall : ((([] : List UInt8)).dropWhile isDig).isEmpty = decide (q + d3.length = l.length) := by
                have hsp := congrArg List.length (span_split (([] : List UInt8)))
                rw [List.length_append, hd3] at hsp
                have := hql.out
                rw [Bool.eq_iff_iff, List.isEmpty_iff, decide_eq_true_eq, ← List.length_eq_zero_iff]
                omega
              have hql2 : q + d3.length ≤ l.length := by have := hql.out; omega
              have hS4 : numS t = (!d3.isEmpty && decide (q + d3.length = l.length), (numP t + 1) + d3.length) := by
                rw [hS3.out]
                unfold expN
                rw [hall, hd3]
              have hV4 : expV 1125899906842624 ([c]) = ((min (numV d3) 1125899906842624 : Nat) : Int) := by
                rw [hV.out]
                unfold expM
                rw [hd3]
              replace hS4 := Lib.hid hS4
              replace hV4 := Lib.hid hV4
              replace hd3 := Lib.hid hd3
              replace hdig3 := Lib.hid hdig3
              replace hdat := Lib.hid hdat
              replace hend := Lib.hid hend
              replace hall := Lib.hid hall
              replace hKq := Lib.hid hKq
              clear hd3l hS3 hV
              go_wp2
              go_loopg [6] d3.length (fun k ev wr => ∃ i : Nat, ev = .int .i64 ((min (numV (d3.take i)) 1125899906842624 : Nat) : Int) ∧ i + k = d3.length ∧ Box w l (q + i) wr)
              case atStart => exact ⟨0, rfl, by omega, hB2⟩
              case round =>
                clear hB2 bs2 ba2 bf2 bb2
                obtain ⟨i, rfl, hik, hB⟩ := hrel
                obtain ⟨z, hz⟩ : ∃ z, q + i = z := ⟨_, rfl⟩
                rw [hz] at hB
                have hdg := digf_any hB
                obtain ⟨bs, ba, bf, bb⟩ := id hB
                obtain ⟨e, he⟩ : ∃ e, min (numV (d3.take i)) 1125899906842624 = e := ⟨_, rfl⟩
                rw [he]
                by_cases hk0 : gk = 0
                · subst hk0
                  have hid : i = d3.length := by omega
                  have hzd : z = q + d3.length := by omega
                  rw [hzd, hend.out] at hdg
                  rw [hid, List.take_length] at he
                  have bb3 : ∀ q, Below w.heap.size w (wr.drewN q) := fun q => bb.trans (Drawn.below ⟨q, rfl⟩ _)
                  have he9 : e ≤ 1125899906842624 := by omega
                  replace hdg := Lib.hid hdg
                  replace he := Lib.hid he
                  by_cases h30 : d3 = []
                  · have hzq : (z : Int) = (q : Int) := by rw [hzd, h30]; simp
                    have hS5 : numS t = (false, (numP t + 1)) := by rw [hS4.out, h30]; rfl
                    have hzf : z = f + (numP t + 1) := by rw [hzd, h30, hKq.out]; rfl
                    replace hS5 := Lib.hid hS5
                    replace hzf := Lib.hid hzf
                    replace hzd := Lib.hid hzd
                    replace h30 := Lib.hid h30
                    go_wp2_with fail
                    refine hdg.out.mono ?_
                    rintro e2 w2 ⟨rfl, rfl⟩
                    go_wp2_with fail
                    go_quiet (fail)
                    go_wp2
                    (try simp only [Exit.inBlock, Exit.then]); refine bodyPost_ret (results_tmp5 rfl _ _ _) rfl ?_
                    exact numOut_no hS5.out (by rw [hKq.out]) (bb3 _)
                  · exact absurd (by rw [← hd3.out]; rfl) h30
                · exfalso
                  have h1 := (hdat.out i (by omega)).1
                  omega
            | x :: r2, hr1, hrr, hS1, hpl' =>
              rw [List.length_cons] at hpl'
              have hq2 : (q : Int) < (l.length : Int) := by omega
              have hgx : l.getD q 0 = x := by
                have : (l.drop q).getD 0 0 = x := by rw [hr1]; rfl
                rw [← this]
                simp [List.getD_eq_getElem?_getD, List.getElem?_drop]
              have hg2 := strL_get l q (by rw [hsz]; omega)
              rw [hgx] at hg2
              replace hgx := Lib.hid hgx
              obtain ⟨q', hq'⟩ : ∃ q', q + 1 = q' := ⟨_, rfl⟩
              have hpq' : (q : Int) + 1 = (q' : Int) := by omega
              have hr2 : l.drop q' = r2 := by
                have := congrArg (List.drop 1) hr1
                rw [List.drop_drop, hq'] at this
                exact this
              by_cases hx43 : x = 43
              · subst hx43
                have hql : q' + r2.length = l.length := by omega
                have hKq : q' = f + (numP t + 1 + 1) := by have := hp.out; omega
                have hS3 : numS t = ((expN r2).1, (numP t + 1 + 1) + (expN r2).2) := by
                  rw [hS1, expE_cons, if_pos (.inl rfl)]
                  exact Prod.ext rfl (by show _ + (_ + 1 + 1) = _; omega)
                have hV : expV 1125899906842624 (c :: 43 :: r2) = ((expM 1125899906842624 r2 : Nat) : Int) := by rw [expV_cons, if_neg (by decide), if_pos rfl]
                have hB2 := hB1.step q'
                obtain ⟨bs2, ba2, bf2, bb2⟩ := id hB2
                replace hr1 := hr2
                have hRq := Lib.hid hr1; clear hr1; replace hql := Lib.hid hql; replace hS3 := Lib.hid hS3; replace hV := Lib.hid hV; replace hS1 := Lib.hid hS1; replace hq := Lib.hid hq
                · skip
                  obtain ⟨d3, hd3⟩ : ∃ d, (r2).takeWhile isDig = d := ⟨_, rfl⟩
                  have hdig3 : ∀ zz ∈ d3, isDig zz = true := fun zz hzz => take_digs (r2) zz (by rw [hd3]; exact hzz)
                  have hd3l : d3.length ≤ (r2).length := by rw [← hd3]; exact (List.takeWhile_prefix _).length_le
                  have hdat : ∀ i, i < d3.length → q' + i < l.length ∧ l.getD (q' + i) 0 = d3.getD i 0 ∧ isDig (d3.getD i 0) = true := fun i hi => by
                    have h1 : (r2).getD i 0 = d3.getD i 0 := by
                      have h := List.prefix_iff_eq_append.1 (hd3 ▸ List.takeWhile_prefix (l := r2) isDig : d3 <+: r2)
                      rw [← h]
                      simp [List.getD_eq_getElem?_getD, List.getElem?_append_left hi]
                    refine ⟨by have := hql.out; omega, ?_, ?_⟩
                    · rw [← h1, ← hRq.out]
                      simp [List.getD_eq_getElem?_getD, List.getElem?_drop]
                    · refine hdig3 _ ?_
                      rw [List.getD_eq_getElem?_getD, List.getElem?_eq_getElem hi]
                      exact List.getElem_mem hi
                  have hend : digAt l (q' + d3.length) = false := by
                    unfold digAt
                    have hsp := span_split (r2)
                    rw [hd3] at hsp
                    match hx : (r2).dropWhile isDig with
                    | [] =>
                      rw [hx, List.append_nil] at hsp
                      have : ¬ q' + d3.length < l.length := by have := hql.out; rw [← hsp] at this; omega
                      rw [decide_eq_false this]; rfl
                    | y :: ys =>
                      rw [hx] at hsp
                      have h1 : l.getD (q' + d3.length) 0 = y := by
                        have : (l.drop q').getD d3.length 0 = y := by
                          rw [hRq.out, ← hsp]
                          simp [List.getD_eq_getElem?_getD]
                        rw [← this]
                        simp [List.getD_eq_getElem?_getD, List.getElem?_drop]
                      rw [h1, drop_head _ hx, Bool.and_false]
                  have hall : ((r2).dropWhile isDig).isEmpty = decide (q' + d3.length = l.length) := by
                    have hsp := congrArg List.length (span_split (r2))
                    rw [List.length_append, hd3] at hsp
                    have := hql.out
                    rw [Bool.eq_iff_iff, List.isEmpty_iff, decide_eq_true_eq, ← List.length_eq_zero_iff]
                    omega
                  have hql2 : q' + d3.length ≤ l.length := by have := hql.out; omega
                  have hS4 : numS t = (!d3.isEmpty && decide (q' + d3.length = l.length), (numP t + 1 + 1) + d3.length) := by
                    rw [hS3.out]
                    unfold expN
                    rw [hall, hd3]
                  have hV4 : expV 1125899906842624 (c :: 43 :: r2) = ((min (numV d3) 1125899906842624 : Nat) : Int) := by
                    rw [hV.out]
                    unfold expM
                    rw [hd3]
                  replace hS4 := Lib.hid hS4
                  replace hV4 := Lib.hid hV4
                  replace hd3 := Lib.hid hd3
                  replace hdig3 := Lib.hid hdig3
                  replace hdat := Lib.hid hdat
                  replace hend := Lib.hid hend
                  replace hall := Lib.hid hall
                  replace hKq := Lib.hid hKq
                  clear hd3l hS3 hV
                  go_wp2
                  go_loopg [6] d3.length (fun k ev wr => ∃ i : Nat, ev = .int .i64 ((min (numV (d3.take i)) 1125899906842624 : Nat) : Int) ∧ i + k = d3.length ∧ Box w l (q' + i) wr)
                  case atStart => exact ⟨0, rfl, by omega, hB2⟩
                  case round =>
                    clear hB2 bs2 ba2 bf2 bb2
                    obtain ⟨i, rfl, hik, hB⟩ := hrel
                    obtain ⟨z, hz⟩ : ∃ z, q' + i = z := ⟨_, rfl⟩
                    rw [hz] at hB
                    have hdg := digf_any hB
                    obtain ⟨bs, ba, bf, bb⟩ := id hB
                    obtain ⟨e, he⟩ : ∃ e, min (numV (d3.take i)) 1125899906842624 = e := ⟨_, rfl⟩
                    rw [he]
                    by_cases hk0 : gk = 0
                    · subst hk0
                      have hid : i = d3.length := by omega
                      have hzd : z = q' + d3.length := by omega
                      rw [hzd, hend.out] at hdg
                      rw [hid, List.take_length] at he
                      have bb3 : ∀ q, Below w.heap.size w (wr.drewN q) := fun q => bb.trans (Drawn.below ⟨q, rfl⟩ _)
                      have he9 : e ≤ 1125899906842624 := by omega
                      replace hdg := Lib.hid hdg
                      replace he := Lib.hid he
                      by_cases h30 : d3 = []
                      · have hzq : (z : Int) = (q' : Int) := by rw [hzd, h30]; simp
                        have hS5 : numS t = (false, (numP t + 1 + 1)) := by rw [hS4.out, h30]; rfl
                        have hzf : z = f + (numP t + 1 + 1) := by rw [hzd, h30, hKq.out]; rfl
                        replace hS5 := Lib.hid hS5
                        replace hzf := Lib.hid hzf
                        replace hzd := Lib.hid hzd
                        replace h30 := Lib.hid h30
                        go_wp2_with fail
                        refine hdg.out.mono ?_
                        rintro e2 w2 ⟨rfl, rfl⟩
                        go_wp2_with fail
                        go_quiet (fail)
                        go_wp2
                        (try simp only [Exit.inBlock, Exit.then]); refine bodyPost_ret (results_tmp5 rfl _ _ _) rfl ?_
                        exact numOut_no hS5.out (by rw [hKq.out]) (bb3 _)
                      · have h3p : 0 < d3.length := List.length_pos_iff.2 h30
                        have hzq : ((z : Int) == (q' : Int)) = false := by simp; omega
                        have h3e : (!d3.isEmpty) = true := by simpa using h30
                        by_cases hzl : z = l.length
                        · have hze : (z : Int) = (l.length : Int) := by omega
                          have hok : (numS t).1 = true := by rw [hS4.out, h3e, Bool.true_and]; simp; omega
                          replace hok := Lib.hid hok
                          replace hzd := Lib.hid hzd
                          replace hzl := Lib.hid hzl
                          go_wp2_with fail
                          refine hdg.out.mono ?_
                          rintro e2 w2 ⟨rfl, rfl⟩
                          go_wp2_with fail
                          go_quiet (fail)
                          go_wp2
                          (try simp only [Exit.inBlock, Exit.then]); refine bodyPost_ret (results_tmp5 rfl _ _ _) rfl ?_
                          refine numOut_yes hok.out hD.out.symm hbh.out.symm ?_ (by simp) (bb3 _)
                          rw [hrr.out, hV4.out, he.out]
                        · have hze : ((z : Int) == (l.length : Int)) = false := by simp; omega
                          have hS5 : numS t = (false, (numP t + 1 + 1) + d3.length) := by rw [hS4.out, h3e, Bool.true_and, decide_eq_false (by omega)]
                          have hzf : z = f + ((numP t + 1 + 1) + d3.length) := by rw [hzd, hKq.out]; omega
                          replace hS5 := Lib.hid hS5
                          replace hzf := Lib.hid hzf
                          replace hzd := Lib.hid hzd
                          replace hzl := Lib.hid hzl
                          go_wp2_with fail
                          refine hdg.out.mono ?_
                          rintro e2 w2 ⟨rfl, rfl⟩
                          go_wp2_with fail
                          go_quiet (fail)
                          go_wp2
                          (try simp only [Exit.inBlock, Exit.then]); refine bodyPost_ret (results_tmp5 rfl _ _ _) rfl ?_
                          exact numOut_no hS5.out hzf.out (bb3 _)
                    · obtain ⟨h1, h2, h3⟩ := hdat.out i (by omega)
                      rw [hz] at h1 h2
                      have hdt : digAt l z = true := by unfold digAt; rw [h2, h3, decide_eq_true h1]; rfl
                      rw [hdt] at hdg
                      obtain ⟨y, hy⟩ : ∃ y, d3.getD i 0 = y := ⟨_, rfl⟩
                      rw [hy] at h2 h3
                      have hg := strL_get l z (by rw [hsz]; exact h1)
                      rw [h2] at hg
                      obtain ⟨x, hx⟩ : ∃ x, y.toNat - 48 = x := ⟨_, rfl⟩
                      have h48 : 48 ≤ y.toNat ∧ y.toNat ≤ 57 := by unfold isDig at h3; simpa using h3
                      have hxi : (y.toNat : Int) - 48 = (x : Int) := by omega
                      have hx9 : x ≤ 9 := by omega
                      have he9 : e ≤ 1125899906842624 := by omega
                      have htk : d3.take (i + 1) = d3.take i ++ [y] := by rw [take_snocB d3 i (by omega), hy]
                      obtain ⟨e', he'⟩ : ∃ e', min (numV (d3.take (i + 1))) 1125899906842624 = e' := ⟨_, rfl⟩
                      have hstep : min (10 * (e : Int) + (x : Int)) 1125899906842624 = (e' : Int) := by
                        rw [htk, numV_snoc, hx] at he'
                        omega
                      have hw1 : IntKind.u8.wrap (x : Int) = (x : Int) := by simp [IntKind.wrap, IntKind.bits, IntKind.signed]; omega
                      have hw2 : IntKind.i64.wrap (10 * (e : Int)) = 10 * (e : Int) := by simp [IntKind.wrap, IntKind.bits, IntKind.signed]; omega
                      have hw3 : IntKind.i64.wrap (10 * (e : Int) + (x : Int)) = 10 * (e : Int) + (x : Int) := by simp [IntKind.wrap, IntKind.bits, IntKind.signed]; omega
                      obtain ⟨z', hz'⟩ : ∃ z', z + 1 = z' := ⟨_, rfl⟩
                      have hzi : (z : Int) + 1 = (z' : Int) := by omega
                      have hzl : (z : Int) < (l.length : Int) := by omega
                      have hB3 := hB.step z'
                      have hqz : q' + (i + 1) = z' := by omega
                      rw [← hqz] at hB3
                      replace hB3 := Lib.hid hB3
                      replace hdg := Lib.hid hdg
                      replace hx := Lib.hid hx
                      replace htk := Lib.hid htk
                      replace he := Lib.hid he
                      replace he' := Lib.hid he'
                      replace hy := Lib.hid hy
                      replace hz := Lib.hid hz
                      replace hz' := Lib.hid hz'
                      replace hqz := Lib.hid hqz
                      go_wp2_with fail
                      refine hdg.out.mono ?_
                      rintro e2 w2 ⟨rfl, rfl⟩
                      go_wp2
                      go_roundg (gk - 1)
                      case measure => omega
                      case rel => exact ⟨i + 1, by rw [he'.out], by omega, by have := hB3.out; rw [hqz.out] at this ⊢; exact this⟩
              · by_cases hx45 : x = 45
                · subst hx45
                  have hql : q' + r2.length = l.length := by omega
                  have hKq : q' = f + (numP t + 1 + 1) := by have := hp.out; omega
                  have hS3 : numS t = ((expN r2).1, (numP t + 1 + 1) + (expN r2).2) := by
                    rw [hS1, expE_cons, if_pos (.inr rfl)]
                    exact Prod.ext rfl (by show _ + (_ + 1 + 1) = _; omega)
                  have hV : expV 1125899906842624 (c :: 45 :: r2) = -((expM 1125899906842624 r2 : Nat) : Int) := by rw [expV_cons, if_pos rfl]
                  have hB2 := hB1.step q'
                  obtain ⟨bs2, ba2, bf2, bb2⟩ := id hB2
                  replace hr1 := hr2
                  have hRq := Lib.hid hr1; clear hr1; replace hql := Lib.hid hql; replace hS3 := Lib.hid hS3; replace hV := Lib.hid hV; replace hS1 := Lib.hid hS1; replace hq := Lib.hid hq
                  obtain ⟨d3, hd3⟩ : ∃ d, (r2).takeWhile isDig = d := ⟨_, rfl⟩
                  have hdig3 : ∀ zz ∈ d3, isDig zz = true := fun zz hzz => take_digs (r2) zz (by rw [hd3]; exact hzz)
                  have hd3l : d3.length ≤ (r2).length := by rw [← hd3]; exact (List.takeWhile_prefix _).length_le
                  have hdat : ∀ i, i < d3.length → q' + i < l.length ∧ l.getD (q' + i) 0 = d3.getD i 0 ∧ isDig (d3.getD i 0) = true := fun i hi => by
                    have h1 : (r2).getD i 0 = d3.getD i 0 := by
                      have h := List.prefix_iff_eq_append.1 (hd3 ▸ List.takeWhile_prefix (l := r2) isDig : d3 <+: r2)
                      rw [← h]
                      simp [List.getD_eq_getElem?_getD, List.getElem?_append_left hi]
                    refine ⟨by have := hql.out; omega, ?_, ?_⟩
                    · rw [← h1, ← hRq.out]
                      simp [List.getD_eq_getElem?_getD, List.getElem?_drop]
                    · refine hdig3 _ ?_
                      rw [List.getD_eq_getElem?_getD, List.getElem?_eq_getElem hi]
                      exact List.getElem_mem hi
                  have hend : digAt l (q' + d3.length) = false := by
                    unfold digAt
                    have hsp := span_split (r2)
                    rw [hd3] at hsp
                    match hx : (r2).dropWhile isDig with
                    | [] =>
                      rw [hx, List.append_nil] at hsp
                      have : ¬ q' + d3.length < l.length := by have := hql.out; rw [← hsp] at this; omega
                      rw [decide_eq_false this]; rfl
                    | y :: ys =>
                      rw [hx] at hsp
                      have h1 : l.getD (q' + d3.length) 0 = y := by
                        have : (l.drop q').getD d3.length 0 = y := by
                          rw [hRq.out, ← hsp]
                          simp [List.getD_eq_getElem?_getD]
                        rw [← this]
                        simp [List.getD_eq_getElem?_getD, List.getElem?_drop]
                      rw [h1, drop_head _ hx, Bool.and_false]
                  have hall : ((r2).dropWhile isDig).isEmpty = decide (q' + d3.length = l.length) := by
                    have hsp := congrArg List.length (span_split (r2))
                    rw [List.length_append, hd3] at hsp
                    have := hql.out
                    rw [Bool.eq_iff_iff, List.isEmpty_iff, decide_eq_true_eq, ← List.length_eq_zero_iff]
                    omega
                  have hql2 : q' + d3.length ≤ l.length := by have := hql.out; omega
                  have hS4 : numS t = (!d3.isEmpty && decide (q' + d3.length = l.length), (numP t + 1 + 1) + d3.length) := by
                    rw [hS3.out]
                    unfold expN
                    rw [hall, hd3]
                  have hV4 : expV 1125899906842624 (c :: 45 :: r2) = -((min (numV d3) 1125899906842624 : Nat) : Int) := by
                    rw [hV.out]
                    unfold expM
                    rw [hd3]
                  replace hS4 := Lib.hid hS4
                  replace hV4 := Lib.hid hV4
                  replace hd3 := Lib.hid hd3
                  replace hdig3 := Lib.hid hdig3
                  replace hdat := Lib.hid hdat
                  replace hend := Lib.hid hend
                  replace hall := Lib.hid hall
                  replace hKq := Lib.hid hKq
                  clear hd3l hS3 hV
                  go_wp2
                  go_loopg [6] d3.length (fun k ev wr => ∃ i : Nat, ev = .int .i64 ((min (numV (d3.take i)) 1125899906842624 : Nat) : Int) ∧ i + k = d3.length ∧ Box w l (q' + i) wr)
                  case atStart => exact ⟨0, rfl, by omega, hB2⟩
                  case round =>
                    clear hB2 bs2 ba2 bf2 bb2
                    obtain ⟨i, rfl, hik, hB⟩ := hrel
                    obtain ⟨z, hz⟩ : ∃ z, q' + i = z := ⟨_, rfl⟩
                    rw [hz] at hB
                    have hdg := digf_any hB
                    obtain ⟨bs, ba, bf, bb⟩ := id hB
                    obtain ⟨e, he⟩ : ∃ e, min (numV (d3.take i)) 1125899906842624 = e := ⟨_, rfl⟩
                    rw [he]
                    by_cases hk0 : gk = 0
                    · subst hk0
                      have hid : i = d3.length := by omega
                      have hzd : z = q' + d3.length := by omega
                      rw [hzd, hend.out] at hdg
                      rw [hid, List.take_length] at he
                      have bb3 : ∀ q, Below w.heap.size w (wr.drewN q) := fun q => bb.trans (Drawn.below ⟨q, rfl⟩ _)
                      have he9 : e ≤ 1125899906842624 := by omega
                      replace hdg := Lib.hid hdg
                      replace he := Lib.hid he
                      by_cases h30 : d3 = []
                      · have hzq : (z : Int) = (q' : Int) := by rw [hzd, h30]; simp
                        have hS5 : numS t = (false, (numP t + 1 + 1)) := by rw [hS4.out, h30]; rfl
                        have hzf : z = f + (numP t + 1 + 1) := by rw [hzd, h30, hKq.out]; rfl
                        replace hS5 := Lib.hid hS5
                        replace hzf := Lib.hid hzf
                        replace hzd := Lib.hid hzd
                        replace h30 := Lib.hid h30
                        go_wp2_with fail
                        refine hdg.out.mono ?_
                        rintro e2 w2 ⟨rfl, rfl⟩
                        go_wp2_with fail
                        go_quiet (fail)
                        go_wp2
                        (try simp only [Exit.inBlock, Exit.then]); refine bodyPost_ret (results_tmp5 rfl _ _ _) rfl ?_
                        exact numOut_no hS5.out (by rw [hKq.out]) (bb3 _)
                      · have h3p : 0 < d3.length := List.length_pos_iff.2 h30
                        have hzq : ((z : Int) == (q' : Int)) = false := by simp; omega
                        have h3e : (!d3.isEmpty) = true := by simpa using h30
                        by_cases hzl : z = l.length
                        · have hze : (z : Int) = (l.length : Int) := by omega
                          have hok : (numS t).1 = true := by rw [hS4.out, h3e, Bool.true_and]; simp; omega
                          replace hok := Lib.hid hok
                          replace hzd := Lib.hid hzd
                          replace hzl := Lib.hid hzl
                          go_wp2_with fail
                          refine hdg.out.mono ?_
                          rintro e2 w2 ⟨rfl, rfl⟩
                          go_wp2_with fail
                          go_quiet (fail)
                          go_wp2
                          (try simp only [Exit.inBlock, Exit.then]); refine bodyPost_ret (results_tmp5 rfl _ _ _) rfl ?_
                          refine numOut_yes hok.out hD.out.symm hbh.out.symm ?_ (by simp) (bb3 _)
                          rw [hrr.out, hV4.out, he.out]
                        · have hze : ((z : Int) == (l.length : Int)) = false := by simp; omega
                          have hS5 : numS t = (false, (numP t + 1 + 1) + d3.length) := by rw [hS4.out, h3e, Bool.true_and, decide_eq_false (by omega)]
                          have hzf : z = f + ((numP t + 1 + 1) + d3.length) := by rw [hzd, hKq.out]; omega
                          replace hS5 := Lib.hid hS5
                          replace hzf := Lib.hid hzf
                          replace hzd := Lib.hid hzd
                          replace hzl := Lib.hid hzl
                          go_wp2_with fail
                          refine hdg.out.mono ?_
                          rintro e2 w2 ⟨rfl, rfl⟩
                          go_wp2_with fail
                          go_quiet (fail)
                          go_wp2
                          (try simp only [Exit.inBlock, Exit.then]); refine bodyPost_ret (results_tmp5 rfl _ _ _) rfl ?_
                          exact numOut_no hS5.out hzf.out (bb3 _)
                    · obtain ⟨h1, h2, h3⟩ := hdat.out i (by omega)
                      rw [hz] at h1 h2
                      have hdt : digAt l z = true := by unfold digAt; rw [h2, h3, decide_eq_true h1]; rfl
                      rw [hdt] at hdg
                      obtain ⟨y, hy⟩ : ∃ y, d3.getD i 0 = y := ⟨_, rfl⟩
                      rw [hy] at h2 h3
                      have hg := strL_get l z (by rw [hsz]; exact h1)
                      rw [h2] at hg
                      obtain ⟨x, hx⟩ : ∃ x, y.toNat - 48 = x := ⟨_, rfl⟩
                      have h48 : 48 ≤ y.toNat ∧ y.toNat ≤ 57 := by unfold isDig at h3; simpa using h3
                      have hxi : (y.toNat : Int) - 48 = (x : Int) := by omega
                      have hx9 : x ≤ 9 := by omega
                      have he9 : e ≤ 1125899906842624 := by omega
                      have htk : d3.take (i + 1) = d3.take i ++ [y] := by rw [take_snocB d3 i (by omega), hy]
                      obtain ⟨e', he'⟩ : ∃ e', min (numV (d3.take (i + 1))) 1125899906842624 = e' := ⟨_, rfl⟩
                      have hstep : min (10 * (e : Int) + (x : Int)) 1125899906842624 = (e' : Int) := by
                        rw [htk, numV_snoc, hx] at he'
                        omega
                      have hw1 : IntKind.u8.wrap (x : Int) = (x : Int) := by simp [IntKind.wrap, IntKind.bits, IntKind.signed]; omega
                      have hw2 : IntKind.i64.wrap (10 * (e : Int)) = 10 * (e : Int) := by simp [IntKind.wrap, IntKind.bits, IntKind.signed]; omega
                      have hw3 : IntKind.i64.wrap (10 * (e : Int) + (x : Int)) = 10 * (e : Int) + (x : Int) := by simp [IntKind.wrap, IntKind.bits, IntKind.signed]; omega
                      obtain ⟨z', hz'⟩ : ∃ z', z + 1 = z' := ⟨_, rfl⟩
                      have hzi : (z : Int) + 1 = (z' : Int) := by omega
                      have hzl : (z : Int) < (l.length : Int) := by omega
                      have hB3 := hB.step z'
                      have hqz : q' + (i + 1) = z' := by omega
                      rw [← hqz] at hB3
                      replace hB3 := Lib.hid hB3
                      replace hdg := Lib.hid hdg
                      replace hx := Lib.hid hx
                      replace htk := Lib.hid htk
                      replace he := Lib.hid he
                      replace he' := Lib.hid he'
                      replace hy := Lib.hid hy
                      replace hz := Lib.hid hz
                      replace hz' := Lib.hid hz'
                      replace hqz := Lib.hid hqz
                      go_wp2_with fail
                      refine hdg.out.mono ?_
                      rintro e2 w2 ⟨rfl, rfl⟩
                      go_wp2
                      go_roundg (gk - 1)
                      case measure => omega
                      case rel => exact ⟨i + 1, by rw [he'.out], by omega, by have := hB3.out; rw [hqz.out] at this ⊢; exact this⟩
                · have h43 : ((x.toNat : Int) == 43) = false := by
                    have : x.toNat ≠ 43 := fun e => hx43 (UInt8.toNat_inj.1 e)
                    simp; omega
                  have h45 : ((x.toNat : Int) == 45) = false := by
                    have : x.toNat ≠ 45 := fun e => hx45 (UInt8.toNat_inj.1 e)
                    simp; omega
                  have hql : q + (x :: r2).length = l.length := by rw [List.length_cons]; omega
                  have hKq : q = f + (numP t + 1) := by have := hp.out; omega
                  have hS3 : numS t = ((expN (x :: r2)).1, (numP t + 1) + (expN (x :: r2)).2) := by
                    rw [hS1, expE_cons, if_neg (by rintro (e | e); exact hx43 e; exact hx45 e)]
                    exact Prod.ext rfl (by show _ + (_ + 1) = _; omega)
                  have hV : expV 1125899906842624 (c :: x :: r2) = ((expM 1125899906842624 (x :: r2) : Nat) : Int) := by rw [expV_cons, if_neg hx45, if_neg hx43]
                  have hB2 := hB1
                  obtain ⟨bs2, ba2, bf2, bb2⟩ := id hB2
                  replace hx43 := Lib.hid hx43
                  replace hx45 := Lib.hid hx45
                  have hRq := Lib.hid hr1; clear hr1; replace hql := Lib.hid hql; replace hS3 := Lib.hid hS3; replace hV := Lib.hid hV; replace hS1 := Lib.hid hS1; replace hq := Lib.hid hq
                  obtain ⟨d3, hd3⟩ : ∃ d, (x :: r2).takeWhile isDig = d := ⟨_, rfl⟩
                  have hdig3 : ∀ zz ∈ d3, isDig zz = true := fun zz hzz => take_digs (x :: r2) zz (by rw [hd3]; exact hzz)
                  have hd3l : d3.length ≤ (x :: r2).length := by rw [← hd3]; exact (List.takeWhile_prefix _).length_le
                  have hdat : ∀ i, i < d3.length → q + i < l.length ∧ l.getD (q + i) 0 = d3.getD i 0 ∧ isDig (d3.getD i 0) = true := fun i hi => by
                    have h1 : (x :: r2).getD i 0 = d3.getD i 0 := by
                      have h := List.prefix_iff_eq_append.1 (hd3 ▸ List.takeWhile_prefix (l := x :: r2) isDig : d3 <+: x :: r2)
                      rw [← h]
                      simp [List.getD_eq_getElem?_getD, List.getElem?_append_left hi]
                    refine ⟨by have := hql.out; omega, ?_, ?_⟩
                    · rw [← h1, ← hRq.out]
                      simp [List.getD_eq_getElem?_getD, List.getElem?_drop]
                    · refine hdig3 _ ?_
                      rw [List.getD_eq_getElem?_getD, List.getElem?_eq_getElem hi]
                      exact List.getElem_mem hi
                  have hend : digAt l (q + d3.length) = false := by
                    unfold digAt
                    have hsp := span_split (x :: r2)
                    rw [hd3] at hsp
                    match hx : (x :: r2).dropWhile isDig with
                    | [] =>
                      rw [hx, List.append_nil] at hsp
                      have : ¬ q + d3.length < l.length := by have := hql.out; rw [← hsp] at this; omega
                      rw [decide_eq_false this]; rfl
                    | y :: ys =>
                      rw [hx] at hsp
                      have h1 : l.getD (q + d3.length) 0 = y := by
                        have : (l.drop q).getD d3.length 0 = y := by
                          rw [hRq.out, ← hsp]
                          simp [List.getD_eq_getElem?_getD]
                        rw [← this]
                        simp [List.getD_eq_getElem?_getD, List.getElem?_drop]
                      rw [h1, drop_head _ hx, Bool.and_false]
                  have hall : ((x :: r2).dropWhile isDig).isEmpty = decide (q + d3.length = l.length) := by
                    have hsp := congrArg List.length (span_split (x :: r2))
                    rw [List.length_append, hd3] at hsp
                    have := hql.out
                    rw [Bool.eq_iff_iff, List.isEmpty_iff, decide_eq_true_eq, ← List.length_eq_zero_iff]
                    omega
                  have hql2 : q + d3.length ≤ l.length := by have := hql.out; omega
                  have hS4 : numS t = (!d3.isEmpty && decide (q + d3.length = l.length), (numP t + 1) + d3.length) := by
                    rw [hS3.out]
                    unfold expN
                    rw [hall, hd3]
                  have hV4 : expV 1125899906842624 (c :: x :: r2) = ((min (numV d3) 1125899906842624 : Nat) : Int) := by
                    rw [hV.out]
                    unfold expM
                    rw [hd3]
                  replace hS4 := Lib.hid hS4
                  replace hV4 := Lib.hid hV4
                  replace hd3 := Lib.hid hd3
                  replace hdig3 := Lib.hid hdig3
                  replace hdat := Lib.hid hdat
                  replace hend := Lib.hid hend
                  replace hall := Lib.hid hall
                  replace hKq := Lib.hid hKq
                  clear hd3l hS3 hV
                  go_wp2
                  go_loopg [6] d3.length (fun k ev wr => ∃ i : Nat, ev = .int .i64 ((min (numV (d3.take i)) 1125899906842624 : Nat) : Int) ∧ i + k = d3.length ∧ Box w l (q + i) wr)
                  case atStart => exact ⟨0, rfl, by omega, hB2⟩
                  case round =>
                    clear hB2 bs2 ba2 bf2 bb2
                    obtain ⟨i, rfl, hik, hB⟩ := hrel
                    obtain ⟨z, hz⟩ : ∃ z, q + i = z := ⟨_, rfl⟩
                    rw [hz] at hB
                    have hdg := digf_any hB
                    obtain ⟨bs, ba, bf, bb⟩ := id hB
                    obtain ⟨e, he⟩ : ∃ e, min (numV (d3.take i)) 1125899906842624 = e := ⟨_, rfl⟩
                    rw [he]
                    by_cases hk0 : gk = 0
                    · subst hk0
                      have hid : i = d3.length := by omega
                      have hzd : z = q + d3.length := by omega
                      rw [hzd, hend.out] at hdg
                      rw [hid, List.take_length] at he
                      have bb3 : ∀ q, Below w.heap.size w (wr.drewN q) := fun q => bb.trans (Drawn.below ⟨q, rfl⟩ _)
                      have he9 : e ≤ 1125899906842624 := by omega
                      replace hdg := Lib.hid hdg
                      replace he := Lib.hid he
                      by_cases h30 : d3 = []
                      · have hzq : (z : Int) = (q : Int) := by rw [hzd, h30]; simp
                        have hS5 : numS t = (false, (numP t + 1)) := by rw [hS4.out, h30]; rfl
                        have hzf : z = f + (numP t + 1) := by rw [hzd, h30, hKq.out]; rfl
                        replace hS5 := Lib.hid hS5
                        replace hzf := Lib.hid hzf
                        replace hzd := Lib.hid hzd
                        replace h30 := Lib.hid h30
                        go_wp2_with fail
                        refine hdg.out.mono ?_
                        rintro e2 w2 ⟨rfl, rfl⟩
                        go_wp2_with fail
                        go_quiet (fail)
                        go_wp2
                        (try simp only [Exit.inBlock, Exit.then]); refine bodyPost_ret (results_tmp5 rfl _ _ _) rfl ?_
                        exact numOut_no hS5.out (by rw [hKq.out]) (bb3 _)
                      · have h3p : 0 < d3.length := List.length_pos_iff.2 h30
                        have hzq : ((z : Int) == (q : Int)) = false := by simp; omega
                        have h3e : (!d3.isEmpty) = true := by simpa using h30
                        by_cases hzl : z = l.length
                        · have hze : (z : Int) = (l.length : Int) := by omega
                          have hok : (numS t).1 = true := by rw [hS4.out, h3e, Bool.true_and]; simp; omega
                          replace hok := Lib.hid hok
                          replace hzd := Lib.hid hzd
                          replace hzl := Lib.hid hzl
                          go_wp2_with fail
                          refine hdg.out.mono ?_
                          rintro e2 w2 ⟨rfl, rfl⟩
                          go_wp2_with fail
                          go_quiet (fail)
                          go_wp2
                          (try simp only [Exit.inBlock, Exit.then]); refine bodyPost_ret (results_tmp5 rfl _ _ _) rfl ?_
                          refine numOut_yes hok.out hD.out.symm hbh.out.symm ?_ (by simp) (bb3 _)
                          rw [hrr.out, hV4.out, he.out]
                        · have hze : ((z : Int) == (l.length : Int)) = false := by simp; omega
                          have hS5 : numS t = (false, (numP t + 1) + d3.length) := by rw [hS4.out, h3e, Bool.true_and, decide_eq_false (by omega)]
                          have hzf : z = f + ((numP t + 1) + d3.length) := by rw [hzd, hKq.out]; omega
                          replace hS5 := Lib.hid hS5
                          replace hzf := Lib.hid hzf
                          replace hzd := Lib.hid hzd
                          replace hzl := Lib.hid hzl
                          go_wp2_with fail
                          refine hdg.out.mono ?_
                          rintro e2 w2 ⟨rfl, rfl⟩
                          go_wp2_with fail
                          go_quiet (fail)
                          go_wp2
                          (try simp only [Exit.inBlock, Exit.then]); refine bodyPost_ret (results_tmp5 rfl _ _ _) rfl ?_
                          exact numOut_no hS5.out hzf.out (bb3 _)
                    · obtain ⟨h1, h2, h3⟩ := hdat.out i (by omega)
                      rw [hz] at h1 h2
                      have hdt : digAt l z = true := by unfold digAt; rw [h2, h3, decide_eq_true h1]; rfl
                      rw [hdt] at hdg
                      obtain ⟨y, hy⟩ : ∃ y, d3.getD i 0 = y := ⟨_, rfl⟩
                      rw [hy] at h2 h3
                      have hg := strL_get l z (by rw [hsz]; exact h1)
                      rw [h2] at hg
                      obtain ⟨x, hx⟩ : ∃ x, y.toNat - 48 = x := ⟨_, rfl⟩
                      have h48 : 48 ≤ y.toNat ∧ y.toNat ≤ 57 := by unfold isDig at h3; simpa using h3
                      have hxi : (y.toNat : Int) - 48 = (x : Int) := by omega
                      have hx9 : x ≤ 9 := by omega
                      have he9 : e ≤ 1125899906842624 := by omega
                      have htk : d3.take (i + 1) = d3.take i ++ [y] := by rw [take_snocB d3 i (by omega), hy]
                      obtain ⟨e', he'⟩ : ∃ e', min (numV (d3.take (i + 1))) 1125899906842624 = e' := ⟨_, rfl⟩
                      have hstep : min (10 * (e : Int) + (x : Int)) 1125899906842624 = (e' : Int) := by
                        rw [htk, numV_snoc, hx] at he'
                        omega
                      have hw1 : IntKind.u8.wrap (x : Int) = (x : Int) := by simp [IntKind.wrap, IntKind.bits, IntKind.signed]; omega
                      have hw2 : IntKind.i64.wrap (10 * (e : Int)) = 10 * (e : Int) := by simp [IntKind.wrap, IntKind.bits, IntKind.signed]; omega
                      have hw3 : IntKind.i64.wrap (10 * (e : Int) + (x : Int)) = 10 * (e : Int) + (x : Int) := by simp [IntKind.wrap, IntKind.bits, IntKind.signed]; omega
                      obtain ⟨z', hz'⟩ : ∃ z', z + 1 = z' := ⟨_, rfl⟩
                      have hzi : (z : Int) + 1 = (z' : Int) := by omega
                      have hzl : (z : Int) < (l.length : Int) := by omega
                      have hB3 := hB.step z'
                      have hqz : q + (i + 1) = z' := by omega
                      rw [← hqz] at hB3
                      replace hB3 := Lib.hid hB3
                      replace hdg := Lib.hid hdg
                      replace hx := Lib.hid hx
                      replace htk := Lib.hid htk
                      replace he := Lib.hid he
                      replace he' := Lib.hid he'
                      replace hy := Lib.hid hy
                      replace hz := Lib.hid hz
                      replace hz' := Lib.hid hz'
                      replace hqz := Lib.hid hqz
                      go_wp2_with fail
                      refine hdg.out.mono ?_
                      rintro e2 w2 ⟨rfl, rfl⟩
                      go_wp2
                      go_roundg (gk - 1)
                      case measure => omega
                      case rel => exact ⟨i + 1, by rw [he'.out], by omega, by have := hB3.out; rw [hqz.out] at this ⊢; exact this⟩
          · skip
            match r1, hr1, hrr, hS1, hpl' with
            | [], hr1, hrr, hS1, hpl' =>
              have hq2 : ¬ (q : Int) < (l.length : Int) := by simp at hpl'; omega
              have hql : q + ([] : List UInt8).length = l.length := by simp at hpl' ⊢; omega
              have hKq : q = f + (numP t + 1) := by have := hp.out; omega
              have hS3 : numS t = ((expN []).1, (numP t + 1) + (expN []).2) := by rw [hS1]; rfl
              have hV : expV 1125899906842624 [c] = ((expM 1125899906842624 [] : Nat) : Int) := rfl
              have hB2 := hB1
              obtain ⟨bs2, ba2, bf2, bb2⟩ := id hB2
              have hRq := Lib.hid hr1; clear hr1; replace hql := Lib.hid hql; replace hS3 := Lib.hid hS3; replace hV := Lib.hid hV; replace hS1 := Lib.hid hS1; replace hq := Lib.hid hq
              obtain ⟨d3, hd3⟩ : ∃ d, (([] : List UInt8)).takeWhile isDig = d := ⟨_, rfl⟩
              have hdig3 : ∀ zz ∈ d3, isDig zz = true := fun zz hzz => take_digs (([] : List UInt8)) zz (by rw [hd3]; exact hzz)
              have hd3l : d3.length ≤ (([] : List UInt8)).length := by rw [← hd3]; exact (List.takeWhile_prefix _).length_le
              have hdat : ∀ i, i < d3.length → q + i < l.length ∧ l.getD (q + i) 0 = d3.getD i 0 ∧ isDig (d3.getD i 0) = true := fun i hi => by
                have h1 : (([] : List UInt8)).getD i 0 = d3.getD i 0 := by
                  have h := List.prefix_iff_eq_append.1 (hd3 ▸ List.takeWhile_prefix (l := ([] : List UInt8)) isDig : d3 <+: ([] : List UInt8))
                  rw [← h]
                  simp [List.getD_eq_getElem?_getD]
                refine ⟨by have := hql.out; omega, ?_, ?_⟩
                · rw [← h1, ← hRq.out]
                  simp [List.getD_eq_getElem?_getD, List.getElem?_drop]
                · refine hdig3 _ ?_
                  rw [List.getD_eq_getElem?_getD, List.getElem?_eq_getElem hi]
                  exact List.getElem_mem hi
              have hend : digAt l (q + d3.length) = false := by
                unfold digAt
                have hsp := span_split (([] : List UInt8))
                rw [hd3] at hsp
                match hx : (([] : List UInt8)).dropWhile isDig with
                | [] =>
                  rw [hx, List.append_nil] at hsp
                  have : ¬ q + d3.length < l.length := by have := hql.out; rw [← hsp] at this; omega
                  rw [decide_eq_false this]; rfl
                | y :: ys =>
                  rw [hx] at hsp
                  have h1 : l.getD (q + d3.length) 0 = y := by
                    have : (l.drop q).getD d3.length 0 = y := by
                      rw [hRq.out, ← hsp]
                      simp [List.getD_eq_getElem?_getD]
                    rw [← this]
                    simp [List.getD_eq_getElem?_getD, List.getElem?_drop]
                  rw [h1, drop_head _ hx, Bool.and_false]
              have hall : ((([] : List UInt8)).dropWhile isDig).isEmpty = decide (q + d3.length = l.length) := by
                have hsp := congrArg List.length (span_split (([] : List UInt8)))
                rw [List.length_append, hd3] at hsp
                have := hql.out
                rw [Bool.eq_iff_iff, List.isEmpty_iff, decide_eq_true_eq, ← List.length_eq_zero_iff]
                omega
              have hql2 : q + d3.length ≤ l.length := by have := hql.out; omega
              have hS4 : numS t = (!d3.isEmpty && decide (q + d3.length = l.length), (numP t + 1) + d3.length) := by
                rw [hS3.out]
                unfold expN
                rw [hall, hd3]
              have hV4 : expV 1125899906842624 ([c]) = ((min (numV d3) 1125899906842624 : Nat) : Int) := by
                rw [hV.out]
                unfold expM
                rw [hd3]
              replace hS4 := Lib.hid hS4
              replace hV4 := Lib.hid hV4
              replace hd3 := Lib.hid hd3
              replace hdig3 := Lib.hid hdig3
              replace hdat := Lib.hid hdat
              replace hend := Lib.hid hend
              replace hall := Lib.hid hall
              replace hKq := Lib.hid hKq
              clear hd3l hS3 hV
              go_wp2
              go_loopg [6] d3.length (fun k ev wr => ∃ i : Nat, ev = .int .i64 ((min (numV (d3.take i)) 1125899906842624 : Nat) : Int) ∧ i + k = d3.length ∧ Box w l (q + i) wr)
              case atStart => exact ⟨0, rfl, by omega, hB2⟩
              case round =>
                clear hB2 bs2 ba2 bf2 bb2
                obtain ⟨i, rfl, hik, hB⟩ := hrel
                obtain ⟨z, hz⟩ : ∃ z, q + i = z := ⟨_, rfl⟩
                rw [hz] at hB
                have hdg := digf_any hB
                obtain ⟨bs, ba, bf, bb⟩ := id hB
                obtain ⟨e, he⟩ : ∃ e, min (numV (d3.take i)) 1125899906842624 = e := ⟨_, rfl⟩
                rw [he]
                by_cases hk0 : gk = 0
                · subst hk0
                  have hid : i = d3.length := by omega
                  have hzd : z = q + d3.length := by omega
                  rw [hzd, hend.out] at hdg
                  rw [hid, List.take_length] at he
                  have bb3 : ∀ q, Below w.heap.size w (wr.drewN q) := fun q => bb.trans (Drawn.below ⟨q, rfl⟩ _)
                  have he9 : e ≤ 1125899906842624 := by omega
                  replace hdg := Lib.hid hdg
                  replace he := Lib.hid he
                  by_cases h30 : d3 = []
                  · have hzq : (z : Int) = (q : Int) := by rw [hzd, h30]; simp
                    have hS5 : numS t = (false, (numP t + 1)) := by rw [hS4.out, h30]; rfl
                    have hzf : z = f + (numP t + 1) := by rw [hzd, h30, hKq.out]; rfl
                    replace hS5 := Lib.hid hS5
                    replace hzf := Lib.hid hzf
                    replace hzd := Lib.hid hzd
                    replace h30 := Lib.hid h30
                    go_wp2_with fail
                    refine hdg.out.mono ?_
                    rintro e2 w2 ⟨rfl, rfl⟩
                    go_wp2_with fail
                    go_quiet (fail)
                    go_wp2
                    (try simp only [Exit.inBlock, Exit.then]); refine bodyPost_ret (results_tmp5 rfl _ _ _) rfl ?_
                    exact numOut_no hS5.out (by rw [hKq.out]) (bb3 _)
                  · exact absurd (by rw [← hd3.out]; rfl) h30
                · exfalso
                  have h1 := (hdat.out i (by omega)).1
                  omega
            | x :: r2, hr1, hrr, hS1, hpl' =>
              rw [List.length_cons] at hpl'
              have hq2 : (q : Int) < (l.length : Int) := by omega
              have hgx : l.getD q 0 = x := by
                have : (l.drop q).getD 0 0 = x := by rw [hr1]; rfl
                rw [← this]
                simp [List.getD_eq_getElem?_getD, List.getElem?_drop]
              have hg2 := strL_get l q (by rw [hsz]; omega)
              rw [hgx] at hg2
              replace hgx := Lib.hid hgx
              obtain ⟨q', hq'⟩ : ∃ q', q + 1 = q' := ⟨_, rfl⟩
              have hpq' : (q : Int) + 1 = (q' : Int) := by omega
              have hr2 : l.drop q' = r2 := by
                have := congrArg (List.drop 1) hr1
                rw [List.drop_drop, hq'] at this
                exact this
              by_cases hx43 : x = 43
              · subst hx43
                have hql : q' + r2.length = l.length := by omega
                have hKq : q' = f + (numP t + 1 + 1) := by have := hp.out; omega
                have hS3 : numS t = ((expN r2).1, (numP t + 1 + 1) + (expN r2).2) := by
                  rw [hS1, expE_cons, if_pos (.inl rfl)]
                  exact Prod.ext rfl (by show _ + (_ + 1 + 1) = _; omega)
                have hV : expV 1125899906842624 (c :: 43 :: r2) = ((expM 1125899906842624 r2 : Nat) : Int) := by rw [expV_cons, if_neg (by decide), if_pos rfl]
                have hB2 := hB1.step q'
                obtain ⟨bs2, ba2, bf2, bb2⟩ := id hB2
                replace hr1 := hr2
                have hRq := Lib.hid hr1; clear hr1; replace hql := Lib.hid hql; replace hS3 := Lib.hid hS3; replace hV := Lib.hid hV; replace hS1 := Lib.hid hS1; replace hq := Lib.hid hq
                · skip
                  obtain ⟨d3, hd3⟩ : ∃ d, (r2).takeWhile isDig = d := ⟨_, rfl⟩
                  have hdig3 : ∀ zz ∈ d3, isDig zz = true := fun zz hzz => take_digs (r2) zz (by rw [hd3]; exact hzz)
                  have hd3l : d3.length ≤ (r2).length := by rw [← hd3]; exact (List.takeWhile_prefix _).length_le
                  have hdat : ∀ i, i < d3.length → q' + i < l.length ∧ l.getD (q' + i) 0 = d3.getD i 0 ∧ isDig (d3.getD i 0) = true := fun i hi => by
                    have h1 : (r2).getD i 0 = d3.getD i 0 := by
                      have h := List.prefix_iff_eq_append.1 (hd3 ▸ List.takeWhile_prefix (l := r2) isDig : d3 <+: r2)
                      rw [← h]
                      simp [List.getD_eq_getElem?_getD, List.getElem?_append_left hi]
                    refine ⟨by have := hql.out; omega, ?_, ?_⟩
                    · rw [← h1, ← hRq.out]
                      simp [List.getD_eq_getElem?_getD, List.getElem?_drop]
                    · refine hdig3 _ ?_
                      rw [List.getD_eq_getElem?_getD, List.getElem?_eq_getElem hi]
                      exact List.getElem_mem hi
                  have hend : digAt l (q' + d3.length) = false := by
                    unfold digAt
                    have hsp := span_split (r2)
                    rw [hd3] at hsp
                    match hx : (r2).dropWhile isDig with
                    | [] =>
                      rw [hx, List.append_nil] at hsp
                      have : ¬ q' + d3.length < l.length := by have := hql.out; rw [← hsp] at this; omega
                      rw [decide_eq_false this]; rfl
                    | y :: ys =>
                      rw [hx] at hsp
                      have h1 : l.getD (q' + d3.length) 0 = y := by
                        have : (l.drop q').getD d3.length 0 = y := by
                          rw [hRq.out, ← hsp]
                          simp [List.getD_eq_getElem?_getD]
                        rw [← this]
                        simp [List.getD_eq_getElem?_getD, List.getElem?_drop]
                      rw [h1, drop_head _ hx, Bool.and_false]
                  have hall : ((r2).dropWhile isDig).isEmpty = decide (q' + d3.length = l.length) := by
                    have hsp := congrArg List.length (span_split (r2))
                    rw [List.length_append, hd3] at hsp
                    have := hql.out
                    rw [Bool.eq_iff_iff, List.isEmpty_iff, decide_eq_true_eq, ← List.length_eq_zero_iff]
                    omega
                  have hql2 : q' + d3.length ≤ l.length := by have := hql.out; omega
                  have hS4 : numS t = (!d3.isEmpty && decide (q' + d3.length = l.length), (numP t + 1 + 1) + d3.length) := by
                    rw [hS3.out]
                    unfold expN
                    rw [hall, hd3]
                  have hV4 : expV 1125899906842624 (c :: 43 :: r2) = ((min (numV d3) 1125899906842624 : Nat) : Int) := by
                    rw [hV.out]
                    unfold expM
                    rw [hd3]
                  replace hS4 := Lib.hid hS4
                  replace hV4 := Lib.hid hV4
                  replace hd3 := Lib.hid hd3
                  replace hdig3 := Lib.hid hdig3
                  replace hdat := Lib.hid hdat
                  replace hend := Lib.hid hend
                  replace hall := Lib.hid hall
                  replace hKq := Lib.hid hKq
                  clear hd3l hS3 hV
                  go_wp2
                  go_loopg [6] d3.length (fun k ev wr => ∃ i : Nat, ev = .int .i64 ((min (numV (d3.take i)) 1125899906842624 : Nat) : Int) ∧ i + k = d3.length ∧ Box w l (q' + i) wr)
                  case atStart => exact ⟨0, rfl, by omega, hB2⟩
                  case round =>
                    clear hB2 bs2 ba2 bf2 bb2
                    obtain ⟨i, rfl, hik, hB⟩ := hrel
                    obtain ⟨z, hz⟩ : ∃ z, q' + i = z := ⟨_, rfl⟩
                    rw [hz] at hB
                    have hdg := digf_any hB
                    obtain ⟨bs, ba, bf, bb⟩ := id hB
                    obtain ⟨e, he⟩ : ∃ e, min (numV (d3.take i)) 1125899906842624 = e := ⟨_, rfl⟩
                    rw [he]
                    by_cases hk0 : gk = 0
                    · subst hk0
                      have hid : i = d3.length := by omega
                      have hzd : z = q' + d3.length := by omega
                      rw [hzd, hend.out] at hdg
                      rw [hid, List.take_length] at he
                      have bb3 : ∀ q, Below w.heap.size w (wr.drewN q) := fun q => bb.trans (Drawn.below ⟨q, rfl⟩ _)
                      have he9 : e ≤ 1125899906842624 := by omega
                      replace hdg := Lib.hid hdg
                      replace he := Lib.hid he
                      by_cases h30 : d3 = []
                      · have hzq : (z : Int) = (q' : Int) := by rw [hzd, h30]; simp
                        have hS5 : numS t = (false, (numP t + 1 + 1)) := by rw [hS4.out, h30]; rfl
                        have hzf : z = f + (numP t + 1 + 1) := by rw [hzd, h30, hKq.out]; rfl
                        replace hS5 := Lib.hid hS5
                        replace hzf := Lib.hid hzf
                        replace hzd := Lib.hid hzd
                        replace h30 := Lib.hid h30
                        go_wp2_with fail
                        refine hdg.out.mono ?_
                        rintro e2 w2 ⟨rfl, rfl⟩
                        go_wp2_with fail
                        go_quiet (fail)
                        go_wp2
                        (try simp only [Exit.inBlock, Exit.then]); refine bodyPost_ret (results_tmp5 rfl _ _ _) rfl ?_
                        exact numOut_no hS5.out (by rw [hKq.out]) (bb3 _)
                      · have h3p : 0 < d3.length := List.length_pos_iff.2 h30
                        have hzq : ((z : Int) == (q' : Int)) = false := by simp; omega
                        have h3e : (!d3.isEmpty) = true := by simpa using h30
                        by_cases hzl : z = l.length
                        · have hze : (z : Int) = (l.length : Int) := by omega
                          have hok : (numS t).1 = true := by rw [hS4.out, h3e, Bool.true_and]; simp; omega
                          replace hok := Lib.hid hok
                          replace hzd := Lib.hid hzd
                          replace hzl := Lib.hid hzl
                          go_wp2_with fail
                          refine hdg.out.mono ?_
                          rintro e2 w2 ⟨rfl, rfl⟩
                          go_wp2_with fail
                          go_quiet (fail)
                          go_wp2
                          (try simp only [Exit.inBlock, Exit.then]); refine bodyPost_ret (results_tmp5 rfl _ _ _) rfl ?_
                          refine numOut_yes hok.out hD.out.symm hbh.out.symm ?_ (by simp) (bb3 _)
                          rw [hrr.out, hV4.out, he.out]
                        · have hze : ((z : Int) == (l.length : Int)) = false := by simp; omega
                          have hS5 : numS t = (false, (numP t + 1 + 1) + d3.length) := by rw [hS4.out, h3e, Bool.true_and, decide_eq_false (by omega)]
                          have hzf : z = f + ((numP t + 1 + 1) + d3.length) := by rw [hzd, hKq.out]; omega
                          replace hS5 := Lib.hid hS5
                          replace hzf := Lib.hid hzf
                          replace hzd := Lib.hid hzd
                          replace hzl := Lib.hid hzl
                          go_wp2_with fail
                          refine hdg.out.mono ?_
                          rintro e2 w2 ⟨rfl, rfl⟩
                          go_wp2_with fail
                          go_quiet (fail)
                          go_wp2
                          (try simp only [Exit.inBlock, Exit.then]); refine bodyPost_ret (results_tmp5 rfl _ _ _) rfl ?_
                          exact numOut_no hS5.out hzf.out (bb3 _)
                    · obtain ⟨h1, h2, h3⟩ := hdat.out i (by omega)
                      rw [hz] at h1 h2
                      have hdt : digAt l z = true := by unfold digAt; rw [h2, h3, decide_eq_true h1]; rfl
                      rw [hdt] at hdg
                      obtain ⟨y, hy⟩ : ∃ y, d3.getD i 0 = y := ⟨_, rfl⟩
                      rw [hy] at h2 h3
                      have hg := strL_get l z (by rw [hsz]; exact h1)
                      rw [h2] at hg
                      obtain ⟨x, hx⟩ : ∃ x, y.toNat - 48 = x := ⟨_, rfl⟩
                      have h48 : 48 ≤ y.toNat ∧ y.toNat ≤ 57 := by unfold isDig at h3; simpa using h3
                      have hxi : (y.toNat : Int) - 48 = (x : Int) := by omega
                      have hx9 : x ≤ 9 := by omega
                      have he9 : e ≤ 1125899906842624 := by omega
                      have htk : d3.take (i + 1) = d3.take i ++ [y] := by rw [take_snocB d3 i (by omega), hy]
                      obtain ⟨e', he'⟩ : ∃ e', min (numV (d3.take (i + 1))) 1125899906842624 = e' := ⟨_, rfl⟩
                      have hstep : min (10 * (e : Int) + (x : Int)) 1125899906842624 = (e' : Int) := by
                        rw [htk, numV_snoc, hx] at he'
                        omega
                      have hw1 : IntKind.u8.wrap (x : Int) = (x : Int) := by simp [IntKind.wrap, IntKind.bits, IntKind.signed]; omega
                      have hw2 : IntKind.i64.wrap (10 * (e : Int)) = 10 * (e : Int) := by simp [IntKind.wrap, IntKind.bits, IntKind.signed]; omega
                      have hw3 : IntKind.i64.wrap (10 * (e : Int) + (x : Int)) = 10 * (e : Int) + (x : Int) := by simp [IntKind.wrap, IntKind.bits, IntKind.signed]; omega
                      obtain ⟨z', hz'⟩ : ∃ z', z + 1 = z' := ⟨_, rfl⟩
                      have hzi : (z : Int) + 1 = (z' : Int) := by omega
                      have hzl : (z : Int) < (l.length : Int) := by omega
                      have hB3 := hB.step z'
                      have hqz : q' + (i + 1) = z' := by omega
                      rw [← hqz] at hB3
                      replace hB3 := Lib.hid hB3
                      replace hdg := Lib.hid hdg
                      replace hx := Lib.hid hx
                      replace htk := Lib.hid htk
                      replace he := Lib.hid he
                      replace he' := Lib.hid he'
                      replace hy := Lib.hid hy
                      replace hz := Lib.hid hz
                      replace hz' := Lib.hid hz'
                      replace hqz := Lib.hid hqz
                      go_wp2_with fail
                      refine hdg.out.mono ?_
                      rintro e2 w2 ⟨rfl, rfl⟩
                      go_wp2
                      go_roundg (gk - 1)
                      case measure => omega
                      case rel => exact ⟨i + 1, by rw [he'.out], by omega, by have := hB3.out; rw [hqz.out] at this ⊢; exact this⟩
              · by_cases hx45 : x = 45
                · subst hx45
                  have hql : q' + r2.length = l.length := by omega
                  have hKq : q' = f + (numP t + 1 + 1) := by have := hp.out; omega
                  have hS3 : numS t = ((expN r2).1, (numP t + 1 + 1) + (expN r2).2) := by
                    rw [hS1, expE_cons, if_pos (.inr rfl)]
                    exact Prod.ext rfl (by show _ + (_ + 1 + 1) = _; omega)
                  have hV : expV 1125899906842624 (c :: 45 :: r2) = -((expM 1125899906842624 r2 : Nat) : Int) := by rw [expV_cons, if_pos rfl]
                  have hB2 := hB1.step q'
                  obtain ⟨bs2, ba2, bf2, bb2⟩ := id hB2
                  replace hr1 := hr2
                  have hRq := Lib.hid hr1; clear hr1; replace hql := Lib.hid hql; replace hS3 := Lib.hid hS3; replace hV := Lib.hid hV; replace hS1 := Lib.hid hS1; replace hq := Lib.hid hq
                  obtain ⟨d3, hd3⟩ : ∃ d, (r2).takeWhile isDig = d := ⟨_, rfl⟩
                  have hdig3 : ∀ zz ∈ d3, isDig zz = true := fun zz hzz => take_digs (r2) zz (by rw [hd3]; exact hzz)
                  have hd3l : d3.length ≤ (r2).length := by rw [← hd3]; exact (List.takeWhile_prefix _).length_le
                  have hdat : ∀ i, i < d3.length → q' + i < l.length ∧ l.getD (q' + i) 0 = d3.getD i 0 ∧ isDig (d3.getD i 0) = true := fun i hi => by
                    have h1 : (r2).getD i 0 = d3.getD i 0 := by
                      have h := List.prefix_iff_eq_append.1 (hd3 ▸ List.takeWhile_prefix (l := r2) isDig : d3 <+: r2)
                      rw [← h]
                      simp [List.getD_eq_getElem?_getD, List.getElem?_append_left hi]
                    refine ⟨by have := hql.out; omega, ?_, ?_⟩
                    · rw [← h1, ← hRq.out]
                      simp [List.getD_eq_getElem?_getD, List.getElem?_drop]
                    · refine hdig3 _ ?_
                      rw [List.getD_eq_getElem?_getD, List.getElem?_eq_getElem hi]
                      exact List.getElem_mem hi
                  have hend : digAt l (q' + d3.length) = false := by
                    unfold digAt
                    have hsp := span_split (r2)
                    rw [hd3] at hsp
                    match hx : (r2).dropWhile isDig with
                    | [] =>
                      rw [hx, List.append_nil] at hsp
                      have : ¬ q' + d3.length < l.length := by have := hql.out; rw [← hsp] at this; omega
                      rw [decide_eq_false this]; rfl
                    | y :: ys =>
                      rw [hx] at hsp
                      have h1 : l.getD (q' + d3.length) 0 = y := by
                        have : (l.drop q').getD d3.length 0 = y := by
                          rw [hRq.out, ← hsp]
                          simp [List.getD_eq_getElem?_getD]
                        rw [← this]
                        simp [List.getD_eq_getElem?_getD, List.getElem?_drop]
                      rw [h1, drop_head _ hx, Bool.and_false]
                  have hall : ((r2).dropWhile isDig).isEmpty = decide (q' + d3.length = l.length) := by
                    have hsp := congrArg List.length (span_split (r2))
                    rw [List.length_append, hd3] at hsp
                    have := hql.out
                    rw [Bool.eq_iff_iff, List.isEmpty_iff, decide_eq_true_eq, ← List.length_eq_zero_iff]
                    omega
                  have hql2 : q' + d3.length ≤ l.length := by have := hql.out; omega
                  have hS4 : numS t = (!d3.isEmpty && decide (q' + d3.length = l.length), (numP t + 1 + 1) + d3.length) := by
                    rw [hS3.out]
                    unfold expN
                    rw [hall, hd3]
                  have hV4 : expV 1125899906842624 (c :: 45 :: r2) = -((min (numV d3) 1125899906842624 : Nat) : Int) := by
                    rw [hV.out]
                    unfold expM
                    rw [hd3]
                  replace hS4 := Lib.hid hS4
                  replace hV4 := Lib.hid hV4
                  replace hd3 := Lib.hid hd3
                  replace hdig3 := Lib.hid hdig3
                  replace hdat := Lib.hid hdat
                  replace hend := Lib.hid hend
                  replace hall := Lib.hid hall
                  replace hKq := Lib.hid hKq
                  clear hd3l hS3 hV
                  go_wp2
                  go_loopg [6] d3.length (fun k ev wr => ∃ i : Nat, ev = .int .i64 ((min (numV (d3.take i)) 1125899906842624 : Nat) : Int) ∧ i + k = d3.length ∧ Box w l (q' + i) wr)
                  case atStart => exact ⟨0, rfl, by omega, hB2⟩
                  case round =>
                    clear hB2 bs2 ba2 bf2 bb2
                    obtain ⟨i, rfl, hik, hB⟩ := hrel
                    obtain ⟨z, hz⟩ : ∃ z, q' + i = z := ⟨_, rfl⟩
                    rw [hz] at hB
                    have hdg := digf_any hB
                    obtain ⟨bs, ba, bf, bb⟩ := id hB
                    obtain ⟨e, he⟩ : ∃ e, min (numV (d3.take i)) 1125899906842624 = e := ⟨_, rfl⟩
                    rw [he]
                    by_cases hk0 : gk = 0
                    · subst hk0
                      have hid : i = d3.length := by omega
                      have hzd : z = q' + d3.length := by omega
                      rw [hzd, hend.out] at hdg
                      rw [hid, List.take_length] at he
                      have bb3 : ∀ q, Below w.heap.size w (wr.drewN q) := fun q => bb.trans (Drawn.below ⟨q, rfl⟩ _)
                      have he9 : e ≤ 1125899906842624 := by omega
                      replace hdg := Lib.hid hdg
                      replace he := Lib.hid he
                      by_cases h30 : d3 = []
                      · have hzq : (z : Int) = (q' : Int) := by rw [hzd, h30]; simp
                        have hS5 : numS t = (false, (numP t + 1 + 1)) := by rw [hS4.out, h30]; rfl
                        have hzf : z = f + (numP t + 1 + 1) := by rw [hzd, h30, hKq.out]; rfl
                        replace hS5 := Lib.hid hS5
                        replace hzf := Lib.hid hzf
                        replace hzd := Lib.hid hzd
                        replace h30 := Lib.hid h30
                        go_wp2_with fail
                        refine hdg.out.mono ?_
                        rintro e2 w2 ⟨rfl, rfl⟩
                        go_wp2_with fail
                        go_quiet (fail)
                        go_wp2
                        (try simp only [Exit.inBlock, Exit.then]); refine bodyPost_ret (results_tmp5 rfl _ _ _) rfl ?_
                        exact numOut_no hS5.out (by rw [hKq.out]) (bb3 _)
                      · have h3p : 0 < d3.length := List.length_pos_iff.2 h30
                        have hzq : ((z : Int) == (q' : Int)) = false := by simp; omega
                        have h3e : (!d3.isEmpty) = true := by simpa using h30
                        by_cases hzl : z = l.length
                        · have hze : (z : Int) = (l.length : Int) := by omega
                          have hok : (numS t).1 = true := by rw [hS4.out, h3e, Bool.true_and]; simp; omega
                          replace hok := Lib.hid hok
                          replace hzd := Lib.hid hzd
                          replace hzl := Lib.hid hzl
                          go_wp2_with fail
                          refine hdg.out.mono ?_
                          rintro e2 w2 ⟨rfl, rfl⟩
                          go_wp2_with fail
                          go_quiet (fail)
                          go_wp2
                          (try simp only [Exit.inBlock, Exit.then]); refine bodyPost_ret (results_tmp5 rfl _ _ _) rfl ?_
                          refine numOut_yes hok.out hD.out.symm hbh.out.symm ?_ (by simp) (bb3 _)
                          rw [hrr.out, hV4.out, he.out]
                        · have hze : ((z : Int) == (l.length : Int)) = false := by simp; omega
                          have hS5 : numS t = (false, (numP t + 1 + 1) + d3.length) := by rw [hS4.out, h3e, Bool.true_and, decide_eq_false (by omega)]
                          have hzf : z = f + ((numP t + 1 + 1) + d3.length) := by rw [hzd, hKq.out]; omega
                          replace hS5 := Lib.hid hS5
                          replace hzf := Lib.hid hzf
                          replace hzd := Lib.hid hzd
                          replace hzl := Lib.hid hzl
                          go_wp2_with fail
                          refine hdg.out.mono ?_
                          rintro e2 w2 ⟨rfl, rfl⟩
                          go_wp2_with fail
                          go_quiet (fail)
                          go_wp2
                          (try simp only [Exit.inBlock, Exit.then]); refine bodyPost_ret (results_tmp5 rfl _ _ _) rfl ?_
                          exact numOut_no hS5.out hzf.out (bb3 _)
                    · obtain ⟨h1, h2, h3⟩ := hdat.out i (by omega)
                      rw [hz] at h1 h2
                      have hdt : digAt l z = true := by unfold digAt; rw [h2, h3, decide_eq_true h1]; rfl
                      rw [hdt] at hdg
                      obtain ⟨y, hy⟩ : ∃ y, d3.getD i 0 = y := ⟨_, rfl⟩
                      rw [hy] at h2 h3
                      have hg := strL_get l z (by rw [hsz]; exact h1)
                      rw [h2] at hg
                      obtain ⟨x, hx⟩ : ∃ x, y.toNat - 48 = x := ⟨_, rfl⟩
                      have h48 : 48 ≤ y.toNat ∧ y.toNat ≤ 57 := by unfold isDig at h3; simpa using h3
                      have hxi : (y.toNat : Int) - 48 = (x : Int) := by omega
                      have hx9 : x ≤ 9 := by omega
                      have he9 : e ≤ 1125899906842624 := by omega
                      have htk : d3.take (i + 1) = d3.take i ++ [y] := by rw [take_snocB d3 i (by omega), hy]
                      obtain ⟨e', he'⟩ : ∃ e', min (numV (d3.take (i + 1))) 1125899906842624 = e' := ⟨_, rfl⟩
                      have hstep : min (10 * (e : Int) + (x : Int)) 1125899906842624 = (e' : Int) := by
                        rw [htk, numV_snoc, hx] at he'
                        omega
                      have hw1 : IntKind.u8.wrap (x : Int) = (x : Int) := by simp [IntKind.wrap, IntKind.bits, IntKind.signed]; omega
                      have hw2 : IntKind.i64.wrap (10 * (e : Int)) = 10 * (e : Int) := by simp [IntKind.wrap, IntKind.bits, IntKind.signed]; omega
                      have hw3 : IntKind.i64.wrap (10 * (e : Int) + (x : Int)) = 10 * (e : Int) + (x : Int) := by simp [IntKind.wrap, IntKind.bits, IntKind.signed]; omega
                      obtain ⟨z', hz'⟩ : ∃ z', z + 1 = z' := ⟨_, rfl⟩
                      have hzi : (z : Int) + 1 = (z' : Int) := by omega
                      have hzl : (z : Int) < (l.length : Int) := by omega
                      have hB3 := hB.step z'
                      have hqz : q' + (i + 1) = z' := by omega
                      rw [← hqz] at hB3
                      replace hB3 := Lib.hid hB3
                      replace hdg := Lib.hid hdg
                      replace hx := Lib.hid hx
                      replace htk := Lib.hid htk
                      replace he := Lib.hid he
                      replace he' := Lib.hid he'
                      replace hy := Lib.hid hy
                      replace hz := Lib.hid hz
                      replace hz' := Lib.hid hz'
                      replace hqz := Lib.hid hqz
                      go_wp2_with fail
                      refine hdg.out.mono ?_
                      rintro e2 w2 ⟨rfl, rfl⟩
                      go_wp2
                      go_roundg (gk - 1)
                      case measure => omega
                      case rel => exact ⟨i + 1, by rw [he'.out], by omega, by have := hB3.out; rw [hqz.out] at this ⊢; exact this⟩
                · have h43 : ((x.toNat : Int) == 43) = false := by
                    have : x.toNat ≠ 43 := fun e => hx43 (UInt8.toNat_inj.1 e)
                    simp; omega
                  have h45 : ((x.toNat : Int) == 45) = false := by
                    have : x.toNat ≠ 45 := fun e => hx45 (UInt8.toNat_inj.1 e)
                    simp; omega
                  have hql : q + (x :: r2).length = l.length := by rw [List.length_cons]; omega
                  have hKq : q = f + (numP t + 1) := by have := hp.out; omega
                  have hS3 : numS t = ((expN (x :: r2)).1, (numP t + 1) + (expN (x :: r2)).2) := by
                    rw [hS1, expE_cons, if_neg (by rintro (e | e); exact hx43 e; exact hx45 e)]
                    exact Prod.ext rfl (by show _ + (_ + 1) = _; omega)
                  have hV : expV 1125899906842624 (c :: x :: r2) = ((expM 1125899906842624 (x :: r2) : Nat) : Int) := by rw [expV_cons, if_neg hx45, if_neg hx43]
                  have hB2 := hB1
                  obtain ⟨bs2, ba2, bf2, bb2⟩ := id hB2
                  replace hx43 := Lib.hid hx43
                  replace hx45 := Lib.hid hx45
                  have hRq := Lib.hid hr1; clear hr1; replace hql := Lib.hid hql; replace hS3 := Lib.hid hS3; replace hV := Lib.hid hV; replace hS1 := Lib.hid hS1; replace hq := Lib.hid hq
                  obtain ⟨d3, hd3⟩ : ∃ d, (x :: r2).takeWhile isDig = d := ⟨_, rfl⟩
                  have hdig3 : ∀ zz ∈ d3, isDig zz = true := fun zz hzz => take_digs (x :: r2) zz (by rw [hd3]; exact hzz)
                  have hd3l : d3.length ≤ (x :: r2).length := by rw [← hd3]; exact (List.takeWhile_prefix _).length_le
                  have hdat : ∀ i, i < d3.length → q + i < l.length ∧ l.getD (q + i) 0 = d3.getD i 0 ∧ isDig (d3.getD i 0) = true := fun i hi => by
                    have h1 : (x :: r2).getD i 0 = d3.getD i 0 := by
                      have h := List.prefix_iff_eq_append.1 (hd3 ▸ List.takeWhile_prefix (l := x :: r2) isDig : d3 <+: x :: r2)
                      rw [← h]
                      simp [List.getD_eq_getElem?_getD, List.getElem?_append_left hi]
                    refine ⟨by have := hql.out; omega, ?_, ?_⟩
                    · rw [← h1, ← hRq.out]
                      simp [List.getD_eq_getElem?_getD, List.getElem?_drop]
                    · refine hdig3 _ ?_
                      rw [List.getD_eq_getElem?_getD, List.getElem?_eq_getElem hi]
                      exact List.getElem_mem hi
                  have hend : digAt l (q + d3.length) = false := by
                    unfold digAt
                    have hsp := span_split (x :: r2)
                    rw [hd3] at hsp
                    match hx : (x :: r2).dropWhile isDig with
                    | [] =>
                      rw [hx, List.append_nil] at hsp
                      have : ¬ q + d3.length < l.length := by have := hql.out; rw [← hsp] at this; omega
                      rw [decide_eq_false this]; rfl
                    | y :: ys =>
                      rw [hx] at hsp
                      have h1 : l.getD (q + d3.length) 0 = y := by
                        have : (l.drop q).getD d3.length 0 = y := by
                          rw [hRq.out, ← hsp]
                          simp [List.getD_eq_getElem?_getD]
                        rw [← this]
                        simp [List.getD_eq_getElem?_getD, List.getElem?_drop]
                      rw [h1, drop_head _ hx, Bool.and_false]
                  have hall : ((x :: r2).dropWhile isDig).isEmpty = decide (q + d3.length = l.length) := by
                    have hsp := congrArg List.length (span_split (x :: r2))
                    rw [List.length_append, hd3] at hsp
                    have := hql.out
                    rw [Bool.eq_iff_iff, List.isEmpty_iff, decide_eq_true_eq, ← List.length_eq_zero_iff]
                    omega
                  have hql2 : q + d3.length ≤ l.length := by have := hql.out; omega
                  have hS4 : numS t = (!d3.isEmpty && decide (q + d3.length = l.length), (numP t + 1) + d3.length) := by
                    rw [hS3.out]
                    unfold expN
                    rw [hall, hd3]
                  have hV4 : expV 1125899906842624 (c :: x :: r2) = ((min (numV d3) 1125899906842624 : Nat) : Int) := by
                    rw [hV.out]
                    unfold expM
                    rw [hd3]
                  replace hS4 := Lib.hid hS4
                  replace hV4 := Lib.hid hV4
                  replace hd3 := Lib.hid hd3
                  replace hdig3 := Lib.hid hdig3
                  replace hdat := Lib.hid hdat
                  replace hend := Lib.hid hend
                  replace hall := Lib.hid hall
                  replace hKq := Lib.hid hKq
                  clear hd3l hS3 hV
                  go_wp2
                  go_loopg [6] d3.length (fun k ev wr => ∃ i : Nat, ev = .int .i64 ((min (numV (d3.take i)) 1125899906842624 : Nat) : Int) ∧ i + k = d3.length ∧ Box w l (q + i) wr)
                  case atStart => exact ⟨0, rfl, by omega, hB2⟩
                  case round =>
                    clear hB2 bs2 ba2 bf2 bb2
                    obtain ⟨i, rfl, hik, hB⟩ := hrel
                    obtain ⟨z, hz⟩ : ∃ z, q + i = z := ⟨_, rfl⟩
                    rw [hz] at hB
                    have hdg := digf_any hB
                    obtain ⟨bs, ba, bf, bb⟩ := id hB
                    obtain ⟨e, he⟩ : ∃ e, min (numV (d3.take i)) 1125899906842624 = e := ⟨_, rfl⟩
                    rw [he]
                    by_cases hk0 : gk = 0
                    · subst hk0
                      have hid : i = d3.length := by omega
                      have hzd : z = q + d3.length := by omega
                      rw [hzd, hend.out] at hdg
                      rw [hid, List.take_length] at he
                      have bb3 : ∀ q, Below w.heap.size w (wr.drewN q) := fun q => bb.trans (Drawn.below ⟨q, rfl⟩ _)
                      have he9 : e ≤ 1125899906842624 := by omega
                      replace hdg := Lib.hid hdg
                      replace he := Lib.hid he
                      by_cases h30 : d3 = []
                      · have hzq : (z : Int) = (q : Int) := by rw [hzd, h30]; simp
                        have hS5 : numS t = (false, (numP t + 1)) := by rw [hS4.out, h30]; rfl
                        have hzf : z = f + (numP t + 1) := by rw [hzd, h30, hKq.out]; rfl
                        replace hS5 := Lib.hid hS5
                        replace hzf := Lib.hid hzf
                        replace hzd := Lib.hid hzd
                        replace h30 := Lib.hid h30
                        go_wp2_with fail
                        refine hdg.out.mono ?_
                        rintro e2 w2 ⟨rfl, rfl⟩
                        go_wp2_with fail
                        go_quiet (fail)
                        go_wp2
                        (try simp only [Exit.inBlock, Exit.then]); refine bodyPost_ret (results_tmp5 rfl _ _ _) rfl ?_
                        exact numOut_no hS5.out (by rw [hKq.out]) (bb3 _)
                      · have h3p : 0 < d3.length := List.length_pos_iff.2 h30
                        have hzq : ((z : Int) == (q : Int)) = false := by simp; omega
                        have h3e : (!d3.isEmpty) = true := by simpa using h30
                        by_cases hzl : z = l.length
                        · have hze : (z : Int) = (l.length : Int) := by omega
                          have hok : (numS t).1 = true := by rw [hS4.out, h3e, Bool.true_and]; simp; omega
                          replace hok := Lib.hid hok
                          replace hzd := Lib.hid hzd
                          replace hzl := Lib.hid hzl
                          go_wp2_with fail
                          refine hdg.out.mono ?_
                          rintro e2 w2 ⟨rfl, rfl⟩
                          go_wp2_with fail
                          go_quiet (fail)
                          go_wp2
                          (try simp only [Exit.inBlock, Exit.then]); refine bodyPost_ret (results_tmp5 rfl _ _ _) rfl ?_
                          refine numOut_yes hok.out hD.out.symm hbh.out.symm ?_ (by simp) (bb3 _)
                          rw [hrr.out, hV4.out, he.out]
                        · have hze : ((z : Int) == (l.length : Int)) = false := by simp; omega
                          have hS5 : numS t = (false, (numP t + 1) + d3.length) := by rw [hS4.out, h3e, Bool.true_and, decide_eq_false (by omega)]
                          have hzf : z = f + ((numP t + 1) + d3.length) := by rw [hzd, hKq.out]; omega
                          replace hS5 := Lib.hid hS5
                          replace hzf := Lib.hid hzf
                          replace hzd := Lib.hid hzd
                          replace hzl := Lib.hid hzl
                          go_wp2_with fail
                          refine hdg.out.mono ?_
                          rintro e2 w2 ⟨rfl, rfl⟩
                          go_wp2_with fail
                          go_quiet (fail)
                          go_wp2
                          (try simp only [Exit.inBlock, Exit.then]); refine bodyPost_ret (results_tmp5 rfl _ _ _) rfl ?_
                          exact numOut_no hS5.out hzf.out (bb3 _)
                    · obtain ⟨h1, h2, h3⟩ := hdat.out i (by omega)
                      rw [hz] at h1 h2
                      have hdt : digAt l z = true := by unfold digAt; rw [h2, h3, decide_eq_true h1]; rfl
                      rw [hdt] at hdg
                      obtain ⟨y, hy⟩ : ∃ y, d3.getD i 0 = y := ⟨_, rfl⟩
                      rw [hy] at h2 h3
                      have hg := strL_get l z (by rw [hsz]; exact h1)
                      rw [h2] at hg
                      obtain ⟨x, hx⟩ : ∃ x, y.toNat - 48 = x := ⟨_, rfl⟩
                      have h48 : 48 ≤ y.toNat ∧ y.toNat ≤ 57 := by unfold isDig at h3; simpa using h3
                      have hxi : (y.toNat : Int) - 48 = (x : Int) := by omega
                      have hx9 : x ≤ 9 := by omega
                      have he9 : e ≤ 1125899906842624 := by omega
                      have htk : d3.take (i + 1) = d3.take i ++ [y] := by rw [take_snocB d3 i (by omega), hy]
                      obtain ⟨e', he'⟩ : ∃ e', min (numV (d3.take (i + 1))) 1125899906842624 = e' := ⟨_, rfl⟩
                      have hstep : min (10 * (e : Int) + (x : Int)) 1125899906842624 = (e' : Int) := by
                        rw [htk, numV_snoc, hx] at he'
                        omega
                      have hw1 : IntKind.u8.wrap (x : Int) = (x : Int) := by simp [IntKind.wrap, IntKind.bits, IntKind.signed]; omega
                      have hw2 : IntKind.i64.wrap (10 * (e : Int)) = 10 * (e : Int) := by simp [IntKind.wrap, IntKind.bits, IntKind.signed]; omega
                      have hw3 : IntKind.i64.wrap (10 * (e : Int) + (x : Int)) = 10 * (e : Int) + (x : Int) := by simp [IntKind.wrap, IntKind.bits, IntKind.signed]; omega
                      obtain ⟨z', hz'⟩ : ∃ z', z + 1 = z' := ⟨_, rfl⟩
                      have hzi : (z : Int) + 1 = (z' : Int) := by omega
                      have hzl : (z : Int) < (l.length : Int) := by omega
                      have hB3 := hB.step z'
                      have hqz : q + (i + 1) = z' := by omega
                      rw [← hqz] at hB3
                      replace hB3 := Lib.hid hB3
                      replace hdg := Lib.hid hdg
                      replace hx := Lib.hid hx
                      replace htk := Lib.hid htk
                      replace he := Lib.hid he
                      replace he' := Lib.hid he'
                      replace hy := Lib.hid hy
                      replace hz := Lib.hid hz
                      replace hz' := Lib.hid hz'
                      replace hqz := Lib.hid hqz
                      go_wp2_with fail
                      refine hdg.out.mono ?_
                      rintro e2 w2 ⟨rfl, rfl⟩
                      go_wp2
                      go_roundg (gk - 1)
                      case measure => omega
                      case rel => exact ⟨i + 1, by rw [he'.out], by omega, by have := hB3.out; rw [hqz.out] at this ⊢; exact this⟩
        · have h1 : ((c.toNat : Int) == 101) = false := by
            have : c.toNat ≠ 101 := fun e => hce (.inl (UInt8.toNat_inj.1 e))
            simp; omega
          have h2 : ((c.toNat : Int) == 69) = false := by
            have : c.toNat ≠ 69 := fun e => hce (.inr (UInt8.toNat_inj.1 e))
            simp; omega
          have hpe : ((p : Int) == (l.length : Int)) = false := by simp; omega
          have hS5 : numS t = (false, numP t) := by rw [hS1, expS_cons, if_neg hce]; rfl
          have bb2 : ∀ q, Below w.heap.size w (w'.drewN q) := fun q => bb.trans (Drawn.below ⟨q, rfl⟩ _)
          replace hS5 := Lib.hid hS5
          replace hS1 := Lib.hid hS1
          go_wp2_with fail
          go_quiet (fail)
          go_wp2
          (try simp only [Exit.inBlock, Exit.then]); refine bodyPost_ret (results_tmp5 rfl _ _ _) rfl ?_
          exact numOut_no hS5.out hp.out (bb2 _)
  · rintro P1 a' w' ⟨p, hF, hB, hp1, hp2, r, hr⟩ Q' hret hgo
    obtain ⟨u, hu⟩ := hF.lit
    replace hu : a' = { tmps := #[.string (strL l), .int .i64 f, .pointer (some ⟨w.heap.size, 0, none⟩), .pointer (some ⟨w.heap.size + 1, 0, none⟩), .string (strL d1), .int .i64 0, .int .i64 0, .int .i64 0, .bool false, .int .i64 ((f + (d1.length + 1) : Nat) : Int), .int .i64 0, .func (Fn.func 162) #[] #[.pointer (some ⟨w.heap.size + 1, 0, none⟩), .pointer (some ⟨w.heap.size, 0, none⟩)], .bool false, u 13, u 14, u 15, u 16, u 17, u 18, u 19, u 20, u 21, u 22, u 23, u 24, u 25, u 26, u 27, u 28, u 29, u 30, u 31, u 32, u 33, u 34, u 35, u 36, u 37, u 38, u 39, u 40, u 41, u 42, u 43, u 44, u 45, u 46, u 47, u 48, u 49, u 50, u 51, u 52, u 53, u 54, u 55, u 56, u 57, u 58, u 59, u 60, u 61, u 62, u 63, u 64, u 65, u 66, u 67, u 68, u 69, u 70, u 71, u 72, u 73, u 74, u 75, u 76, u 77, u 78, u 79, u 80, u 81, u 82, u 83, u 84, u 85, u 86, u 87, u 88, u 89, u 90, u 91, u 92, u 93, u 94, u 95, u 96, u 97, u 98, u 99, u 100, u 101, u 102, u 103, u 104, u 105, u 106, u 107, u 108, u 109, u 110, u 111, u 112, u 113, u 114, u 115, u 116, u 117, u 118, u 119, u 120], defers := [] } := hu
    subst hu
    clear hF
    obtain ⟨bs, ba, bf, bb⟩ := id hB
    have hdg := digf_any hB
    obtain ⟨h1, h2, h3, h4⟩ := num_pt hr
    obtain ⟨d2, hd2⟩ : ∃ d, r.takeWhile isDig = d := ⟨_, rfl⟩
    rw [hd2] at h2
    rw [hd2, hd1.out] at h1
    have hsp1 := congrArg List.length (span_split t)
    have hsp2 := congrArg List.length (span_split r)
    rw [List.length_append, hr, hd1.out, List.length_cons] at hsp1
    rw [List.length_append, hd2, ← h3] at hsp2
    have hP : numP t = d1.length + 1 + d2.length := by unfold numP; omega
    obtain ⟨b, hb⟩ : ∃ b, f + (d1.length + 1) = b := ⟨_, rfl⟩
    have hlr : l.drop b = r := by
      have e : t.drop (d1.length + 1) = r := by
        have h := span_split t
        rw [hr, hd1.out] at h
        rw [← h, List.append_cons]
        rw [List.drop_left' (by simp)]
      rw [← hb, ← e, ← ht.out, List.drop_drop]
    have hP9 : f + numP t ≤ l.length := by unfold numP; omega
    have hl9 : l.length ≤ 9223372036854775807 := by unfold maxLen at hl; omega
    have hdd2 : digAt l p = decide (p < f + numP t) := by
      have hpb : l.getD p 0 = r.getD (p - b) 0 := by
        rw [← hlr]
        simp [List.getD_eq_getElem?_getD, List.getElem?_drop, show b + (p - b) = p by omega]
      unfold digAt
      rw [hpb]
      have hsp := span_split r
      rw [hd2] at hsp
      by_cases hlt : p < f + numP t
      · have hi : p - b < d2.length := by omega
        have hg : r.getD (p - b) 0 = d2.getD (p - b) 0 := by
          rw [← hsp]
          simp [List.getD_eq_getElem?_getD, List.getElem?_append_left hi]
        have hdig : isDig (d2.getD (p - b) 0) = true := by
          refine take_digs r _ ?_
          rw [hd2, List.getD_eq_getElem?_getD, List.getElem?_eq_getElem hi]
          exact List.getElem_mem hi
        rw [hg, hdig, decide_eq_true hlt, decide_eq_true (by omega)]; rfl
      · have hpe : p - b = d2.length := by omega
        rw [decide_eq_false hlt, hpe]
        match hx : r.dropWhile isDig with
        | [] =>
          rw [hx] at h3
          rw [h3, List.length_nil] at hsp2
          rw [decide_eq_false (by omega)]; rfl
        | y :: ys =>
          have hg : r.getD d2.length 0 = y := by
            rw [hx] at hsp
            rw [← hsp]
            simp [List.getD_eq_getElem?_getD]
          rw [hg, drop_head _ hx, Bool.and_false]
    replace hret := Lib.hid hret
    replace hgo := Lib.hid hgo
    replace P1 := Lib.hid P1
    replace hsp1 := Lib.hid hsp1
    replace hsp2 := Lib.hid hsp2
    replace hr := Lib.hid hr
    replace hd2 := Lib.hid hd2
    replace h1 := Lib.hid h1
    replace h2 := Lib.hid h2
    replace h3 := Lib.hid h3
    replace h4 := Lib.hid h4
    replace hlr := Lib.hid hlr
    replace hP := Lib.hid hP
    replace hb := Lib.hid hb
    rw [hb.out]
    by_cases hlt : p < f + numP t
    · rw [hdd2, decide_eq_true hlt] at hdg
      obtain ⟨p', hp'⟩ : ∃ x, p + 1 = x := ⟨_, rfl⟩
      have hpi : (p : Int) + 1 = (p' : Int) := by omega
      have hB' := hB.step p'
      have hp9 : p' ≤ 9223372036854775807 := by omega
      replace hlt := Lib.hid hlt
      replace hp' := Lib.hid hp'
      replace hdg := Lib.hid hdg
      clear hdd2
      go_wp2_with fail
      refine hdg.out.mono ?_
      rintro e w2 ⟨rfl, rfl⟩
      go_wp2
      refine wp_goto ?_
      refine hgo.out 2 _ _ ⟨rfl, ⟨p', ?_, hB', ?_, ?_, ⟨r, hr.out⟩⟩, ?_⟩
      · rw [hb.out]; (refine ⟨rfl, rfl, ?_⟩; repeat (first | exact trivial | refine ⟨rfl, ?_⟩))
      · have := hp'.out; omega
      · have := hp'.out; have := hlt.out; omega
      · rw [hB'.a, ba]
        have := hp'.out; have := hlt.out
        simp [intOf]
        omega
    · have hpe : p = f + numP t := by omega
      rw [hdd2, decide_eq_false hlt] at hdg
      have hbp : b ≤ p := by have := hb.out; omega
      have hbh : (p : Int) - (b : Int) = ((numB t : Nat) : Int) := by
        have := h2.out; have := hb.out; have := hP.out
        omega
      have hext : strL d1 ++ (strL l).extract b p = strL (numD t) := by
        have e : (strL l).extract b p = strL d2 := by
          have hsp := span_split r
          rw [hd2.out] at hsp
          apply ByteArray.ext
          apply Array.toList_inj.1
          rw [ByteArray.data_extract, Array.toList_extract]
          show (l.extract b p) = d2
          rw [List.extract_eq_take_drop, hlr.out, show p - b = d2.length by have := hb.out; have := hP.out; omega, ← hsp, List.take_left']
          rfl
        rw [e, h1.out]
        unfold strL
        apply ByteArray.ext
        simp
      have hpl9 : p ≤ l.length := by omega
      replace hlt := Lib.hid hlt
      replace hdg := Lib.hid hdg
      replace hpe := Lib.hid hpe
      have hsz := strL_size l
      have hs1 := strL_size d1
      obtain ⟨n2, hn2⟩ : ∃ n, ((strL l).extract b p).size = n := ⟨_, rfl⟩
      have hn2b : n2 ≤ l.length := by rw [← hn2, ByteArray.size_extract, strL_size]; omega
      have hcc : d1.length + n2 ≤ 9223372036854775807 := by
        rw [← hn2, ByteArray.size_extract, strL_size]
        have := hb.out; omega
      clear hdd2
      go_wp2_with fail
      refine hdg.out.mono ?_
      rintro e w2 ⟨rfl, rfl⟩
      go_wp2
      go_step3
      rename_i hK
      refine hK _ _ ?_
      refine P1.out _ _ ⟨p, ?_, hB, hpe.out, ?_⟩ _ hret.out (fun _ _ _ f => f.elim)
      · (refine ⟨rfl, rfl, ?_⟩; repeat (first | exact trivial | refine ⟨rfl, ?_⟩))
      · rw [h3.out]
        have hsp := span_split r
        rw [hd2.out] at hsp
        have e : r.drop d2.length = r.dropWhile isDig := by
          conv => lhs; rw [← hsp]
          rw [List.drop_left' rfl]
        rw [← e, ← hlr.out, List.drop_drop]
        congr 1
        have := hb.out; have := hpe.out; have := hP.out
        omega
  · rintro P1 P2 a' w' ⟨p, hF, hB, hp1, hp2⟩ Q' hret hgo
    obtain ⟨u, hu⟩ := hF.lit
    replace hu : a' = { tmps := #[.string (strL l), .int .i64 f, .pointer (some ⟨w.heap.size, 0, none⟩), .pointer (some ⟨w.heap.size + 1, 0, none⟩), .string (strL []), .int .i64 0, .int .i64 0, .int .i64 0, .bool false, .int .i64 f, .int .i64 0, .func (Fn.func 162) #[] #[.pointer (some ⟨w.heap.size + 1, 0, none⟩), .pointer (some ⟨w.heap.size, 0, none⟩)], .bool false, u 13, u 14, u 15, u 16, u 17, u 18, u 19, u 20, u 21, u 22, u 23, u 24, u 25, u 26, u 27, u 28, u 29, u 30, u 31, u 32, u 33, u 34, u 35, u 36, u 37, u 38, u 39, u 40, u 41, u 42, u 43, u 44, u 45, u 46, u 47, u 48, u 49, u 50, u 51, u 52, u 53, u 54, u 55, u 56, u 57, u 58, u 59, u 60, u 61, u 62, u 63, u 64, u 65, u 66, u 67, u 68, u 69, u 70, u 71, u 72, u 73, u 74, u 75, u 76, u 77, u 78, u 79, u 80, u 81, u 82, u 83, u 84, u 85, u 86, u 87, u 88, u 89, u 90, u 91, u 92, u 93, u 94, u 95, u 96, u 97, u 98, u 99, u 100, u 101, u 102, u 103, u 104, u 105, u 106, u 107, u 108, u 109, u 110, u 111, u 112, u 113, u 114, u 115, u 116, u 117, u 118, u 119, u 120], defers := [] } := hu
    subst hu
    clear hF
    obtain ⟨bs, ba, bf, bb⟩ := id hB
    have hdg := digf_any hB
    have hsp := span_split t
    rw [hd1.out] at hsp
    have hspl := congrArg List.length hsp
    rw [List.length_append] at hspl
    have hl9 : l.length ≤ 9223372036854775807 := by unfold maxLen at hl; omega
    have hget : ∀ i, l.getD (f + i) 0 = t.getD i 0 := fun i => by
      rw [← ht.out]
      simp [List.getD_eq_getElem?_getD, List.getElem?_drop]
    have hdd : digAt l p = decide (p < f + d1.length) := by
      have hpb : l.getD p 0 = t.getD (p - f) 0 := by
        rw [← hget, show f + (p - f) = p by omega]
      unfold digAt
      rw [hpb]
      by_cases hlt : p < f + d1.length
      · have hi : p - f < d1.length := by omega
        have hg : t.getD (p - f) 0 = d1.getD (p - f) 0 := by
          rw [← hsp]
          simp [List.getD_eq_getElem?_getD, List.getElem?_append_left hi]
        have hdig : isDig (d1.getD (p - f) 0) = true := by
          refine take_digs t _ ?_
          rw [hd1.out, List.getD_eq_getElem?_getD, List.getElem?_eq_getElem hi]
          exact List.getElem_mem hi
        rw [hg, hdig, decide_eq_true hlt, decide_eq_true (by omega)]; rfl
      · have hpe : p - f = d1.length := by omega
        rw [decide_eq_false hlt, hpe]
        match hx : t.dropWhile isDig with
        | [] =>
          rw [hx, List.length_nil] at hspl
          rw [decide_eq_false (by omega)]; rfl
        | y :: ys =>
          have hg : t.getD d1.length 0 = y := by
            rw [hx] at hsp
            rw [← hsp]
            simp [List.getD_eq_getElem?_getD]
          rw [hg, drop_head _ hx, Bool.and_false]
    replace hret := Lib.hid hret
    replace hgo := Lib.hid hgo
    replace P1 := Lib.hid P1
    replace P2 := Lib.hid P2
    replace hsp := Lib.hid hsp
    replace hspl := Lib.hid hspl
    replace hget := Lib.hid hget
    by_cases hlt : p < f + d1.length
    · rw [hdd, decide_eq_true hlt] at hdg
      have hspl' := hspl.out
      obtain ⟨p', hp'⟩ : ∃ x, p + 1 = x := ⟨_, rfl⟩
      have hpi : (p : Int) + 1 = (p' : Int) := by omega
      have hB' := hB.step p'
      have hp9 : p' ≤ 9223372036854775807 := by omega
      replace hlt := Lib.hid hlt
      replace hp' := Lib.hid hp'
      replace hdg := Lib.hid hdg
      replace hspl' := Lib.hid hspl'
      clear hdd
      go_wp2_with fail
      refine hdg.out.mono ?_
      rintro e w2 ⟨rfl, rfl⟩
      go_wp2
      refine wp_goto ?_
      refine hgo.out 0 _ _ (.inl ⟨rfl, ⟨p', ?_, hB', ?_, ?_⟩, ?_⟩)
      · (refine ⟨rfl, rfl, ?_⟩; repeat (first | exact trivial | refine ⟨rfl, ?_⟩))
      · have := hp'.out; omega
      · have := hp'.out; have := hlt.out; omega
      · rw [hB'.a, ba]
        have := hp'.out; have := hlt.out; have := hspl'.out
        simp [intOf]
        omega
    · have hpe : p = f + d1.length := by omega
      rw [hdd, decide_eq_false hlt] at hdg
      have hspl' := hspl.out
      have hpl9 : p ≤ l.length := by omega
      have hsz := strL_size l
      have hext : (strL l).extract f p = strL d1 := by
        apply ByteArray.ext
        apply Array.toList_inj.1
        rw [ByteArray.data_extract, Array.toList_extract]
        show (l.extract f p) = d1
        rw [List.extract_eq_take_drop, ht.out, show p - f = d1.length by omega, ← hsp.out, List.take_left']
        rfl
      have hld : l.drop p = t.dropWhile isDig := by
        have e : t.drop d1.length = t.dropWhile isDig := by
          conv => lhs; rw [← hsp.out]
          rw [List.drop_left' rfl]
        rw [← e, ← ht.out, List.drop_drop, hpe]
      have hpf : (f : Int) ≤ (p : Int) := by omega
      replace hlt := Lib.hid hlt
      replace hdg := Lib.hid hdg
      replace hpe := Lib.hid hpe
      replace hspl' := Lib.hid hspl'
      clear hdd
      by_cases hpl : p = l.length
      · have hnp : ∀ r, t.dropWhile isDig = 46 :: r → False := fun r e => by
          rw [e] at hld
          have := congrArg List.length hld
          rw [List.length_drop, List.length_cons] at this
          omega
        obtain ⟨h1, h2, h3, h4⟩ := num_np hnp
        have hpe2 : ((p : Int) == (l.length : Int)) = true := by simp; omega
        replace hpl := Lib.hid hpl
        replace hld := Lib.hid hld
        replace h1 := Lib.hid h1
        replace h2 := Lib.hid h2
        replace h3 := Lib.hid h3
        replace h4 := Lib.hid h4
        replace hnp := Lib.hid hnp
        go_wp2_with fail
        refine hdg.out.mono ?_
        rintro e w2 ⟨rfl, rfl⟩
        go_wp2
        refine wp_goto ?_
        refine hgo.out 1 _ _ (.inr (.inl ⟨rfl, ⟨p, ?_, hB, ?_, ?_⟩⟩))
        · rw [h1.out, h2.out, hd1.out]; (refine ⟨rfl, rfl, ?_⟩; repeat (first | exact trivial | refine ⟨rfl, ?_⟩))
        · unfold numP
          rw [h3.out]
          have := hpe.out; have := hspl'.out; omega
        · rw [h3.out]; exact hld.out
      · have hlt2 : p < l.length := by omega
        have hpe2 : ((p : Int) == (l.length : Int)) = false := by simp; omega
        have hg := strL_get l p (by rw [hsz]; exact hlt2)
        obtain ⟨c, hc⟩ : ∃ c, l.getD p 0 = c := ⟨_, rfl⟩
        rw [hc] at hg
        have hdr : t.dropWhile isDig = c :: l.drop (p + 1) := by
          rw [← hld, List.drop_eq_getElem_cons hlt2]
          congr 1
        by_cases hc46 : c = 46
        · subst hc46
          have h46 : (((46 : UInt8).toNat : Int) == 46) = true := by decide
          obtain ⟨p', hp'⟩ : ∃ x, p + 1 = x := ⟨_, rfl⟩
          have hpi : (p : Int) + 1 = (p' : Int) := by omega
          have hB' := hB.step p'
          obtain ⟨bs', ba', bf', bb'⟩ := id hB'
          have hp9 : p' ≤ 9223372036854775807 := by omega
          have hnP : p' ≤ f + numP t := by
            obtain ⟨_, _, h3, _⟩ := num_pt hdr
            have hs := (numR_suffix t).length_le
            have hd := congrArg List.length (span_split (l.drop (p + 1)))
            rw [List.length_append] at hd
            unfold numP
            rw [h3] at hs ⊢
            rw [List.length_drop] at hd
            have := hpe.out
            omega
          replace hpl := Lib.hid hpl
          replace hld := Lib.hid hld
          replace hdr := Lib.hid hdr
          replace hc := Lib.hid hc
          replace hp' := Lib.hid hp'
          replace hnP := Lib.hid hnP
          go_wp2_with fail
          refine hdg.out.mono ?_
          rintro e w2 ⟨rfl, rfl⟩
          go_wp2
          go_step3
          rename_i hK
          refine hK _ _ ?_
          have hbe : f + (d1.length + 1) = p' := by have := hpe.out; have := hp'.out; omega
          refine P2.out _ _ ⟨p', ?_, hB', by omega, hnP.out, ⟨_, hdr.out⟩⟩ _ hret.out (fun l a' w' h => hgo.out l a' w' (.inr (.inr ⟨h.1, h.2.1⟩)))
          rw [hbe]
          (refine ⟨rfl, rfl, ?_⟩; repeat (first | exact trivial | refine ⟨rfl, ?_⟩))
        · have h46 : ((c.toNat : Int) == 46) = false := by
            have : c.toNat ≠ 46 := fun e => hc46 (UInt8.toNat_inj.1 e)
            simp; omega
          have hnp : ∀ r, t.dropWhile isDig = 46 :: r → False := fun r e => by
            rw [hdr] at e
            injection e with e1 e2
            exact hc46 e1
          obtain ⟨h1, h2, h3, h4⟩ := num_np hnp
          replace hpl := Lib.hid hpl
          replace hld := Lib.hid hld
          replace hdr := Lib.hid hdr
          replace hc := Lib.hid hc
          replace h1 := Lib.hid h1
          replace h2 := Lib.hid h2
          replace h3 := Lib.hid h3
          replace h4 := Lib.hid h4
          replace hnp := Lib.hid hnp
          replace hc46 := Lib.hid hc46
          go_wp2_with fail
          refine hdg.out.mono ?_
          rintro e w2 ⟨rfl, rfl⟩
          go_wp2
          refine wp_goto ?_
          refine hgo.out 1 _ _ (.inr (.inl ⟨rfl, ⟨p, ?_, hB, ?_, ?_⟩⟩))
          · rw [h1.out, h2.out, hd1.out]; (refine ⟨rfl, rfl, ?_⟩; repeat (first | exact trivial | refine ⟨rfl, ?_⟩))
          · unfold numP
            rw [h3.out]
            have := hpe.out; have := hspl'.out; omega
          · rw [h3.out]; exact hld.out
  · intro P0 Q' hret hgo
    replace P0 := Lib.hid P0
    replace hret := Lib.hid hret
    replace hgo := Lib.hid hgo
    go_wp2
    go_step3
    rename_i hK
    refine hK _ _ ?_
    refine P0.out _ _ ⟨f, ?_, hbox, Nat.le_refl _, Nat.le_add_right _ _⟩ _ hret.out (fun l a' w' h => hgo.out l a' w' (h.imp (fun h => ⟨h.1, h.2.1⟩) id))
    (refine ⟨rfl, rfl, ?_⟩; repeat (first | exact trivial | refine ⟨rfl, ?_⟩))
end Go.Proofs.YtncfbleeidjflaaGreatDoor
