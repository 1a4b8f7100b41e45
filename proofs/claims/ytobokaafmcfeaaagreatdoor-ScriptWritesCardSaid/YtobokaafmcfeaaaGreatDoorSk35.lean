/- Script: a load, walked. Conditions: none. -/
/- Script: what is told, kept; walked. Conditions: the variables that values read. -/
import Derived.Test.YtobokaafmcfeaaaGreatDoorSk33
import Derived.Test.YtobokaafmcfeaaaGreatDoorSk34
import Derived.Test.YtobokaafmcfeaaaGreatDoorSk26
import Derived.Test.YtobokaafmcfeaaaGreatDoorSk31
import Derived.ArgAppend
namespace Go.Proofs.YtobokaafmcfeaaaGreatDoor
open Go.RowKit Go.Cal
theorem cells6S {g : Nat} {a b c d e f : Value} {t : TypeId} {w : World} (hp : pBlk g #[a, b, c, d, e, f] t w) : w.cell? ⟨g, 0, none⟩ = some a ∧ w.cell? ⟨g, 1, none⟩ = some b ∧ w.cell? ⟨g, 2, none⟩ = some c ∧ w.cell? ⟨g, 3, none⟩ = some d ∧ w.cell? ⟨g, 4, none⟩ = some e ∧ w.cell? ⟨g, 5, none⟩ = some f :=
  ⟨hp.cell 0 _ rfl, hp.cell 1 _ rfl, hp.cell 2 _ rfl, hp.cell 3 _ rfl, hp.cell 4 _ rfl, hp.cell 5 _ rfl⟩
theorem of_x (w : World) : Calls Tryz.prog 141 #[.int .u64 1] w fun e w' => ∃ v, e = .returned v ∧ IsT w' v 1 1 ∧ Below w.heap.size w w' :=
  (of_t w 1 (by decide)).mono fun _ _ ⟨v, he, hv, hb⟩ => ⟨v, he, hv, hb⟩
/-- The bytes of a script. -/
structure Byt (w0 : World) (B : Option Addr) (n c : Nat) (l : List UInt8) : Prop where
  ne : l ≠ []
  len : l.length = n
  cap : n ≤ c
  capm : c ≤ maxLen
  few : n ≤ 1000000
  rd : RdB w0 w0.heap.size B l
section
variable {w0 w w' : World} {base g rb bx mb n c X p : Nat} {id wd : Int} {B : Option Addr} {E : Nat → Array Value → TypeId → Prop} {Ov : Value} {O : List Nat} {l : List UInt8}
theorem Byt.at (Y : Byt w0 B n c l) (h : Below w0.heap.size w0 w) : RdB w w.heap.size B l := (Y.rd.below h).more h.size
theorem Byt.apart (Y : Byt w0 B n c l) {x : Nat} (hx : w0.heap.size ≤ x) : ∀ b o, B = some ⟨b, o, none⟩ → b ≠ x := fun b o hB => by
  rcases Y.rd.place with h | ⟨b', o', e, hb⟩
  · exact absurd h Y.ne
  · rw [hB] at e
    injection e with e
    injection e with e1 e2
    omega
theorem take_st (G : Geo w0 base g rb bx mb) (Y : Byt w0 B n c l) (h : StV w0 base g rb bx mb n c id wd B E Ov X O p w) (k : Nat) (hk : k ≤ n - p) (hp : p ≤ n) :
    Calls Tryz.prog 193 #[(.pointer (some ⟨rb, 0, none⟩)), .int .i64 (k : Nat)] w fun e w' => ∃ B' c', e = .returned (.slice B' k c') ∧ RdB w' w'.heap.size B' ((l.drop p).take k) ∧ k ≤ c' ∧ c' ≤ maxLen ∧ StV w0 base g rb bx mb n c id wd B E Ov X O (p + k) w' :=
  (take_yes k hk hp (Nat.le_trans Y.cap Y.capm) Y.cap Y.capm h.run Y.len (Y.at h.below) (Y.apart G.r0)).mono fun _ _ ⟨B', c', he, hr, h1, h2, hp', hm⟩ => ⟨B', c', he, hr, h1, h2, h.at G hp' hm⟩
theorem take_sn (Y : Byt w0 B n c l) (h : StV w0 base g rb bx mb n c id wd B E Ov X O p w) (k : Nat) (hk : n - p < k) (hp : p ≤ n) :
    Calls Tryz.prog 193 #[(.pointer (some ⟨rb, 0, none⟩)), .int .i64 (k : Nat)] w fun e w' => e = .panicked [{ v := .iface 239 (.agg #[.int .i64 2]), recovered := false }] ∧ StV w0 base g rb bx mb n c id wd B E Ov X O p w' :=
  (take_no k hk hp (Nat.le_trans Y.cap Y.capm) h.run).mono fun _ _ ⟨he, hb⟩ => ⟨he, h.go hb⟩
theorem loadf_none (Y : Byt w0 B n c l) (h : StV w0 base g rb bx mb n c id wd B E Ov X O p w) (hk : n - p < 1) (hp : p ≤ n) : Calls Tryz.prog 191 #[(.pointer (some ⟨rb, 0, none⟩))] w fun e w' => e = .panicked [{ v := .iface 239 (.agg #[.int .i64 2]), recovered := false }] ∧ StV w0 base g rb bx mb n c id wd B E Ov X O p w' := by
  have ht := Lib.hid (take_sn Y h 1 hk hp)
  clear h Y hk hp
  go_enter Tryz.func191, Tryz.ntmps191
  go_wp2_with fail
  refine ht.out.mono ?_
  rintro e w1 ⟨rfl, h1⟩
  go_wp2
  exact ⟨rfl, rfl, h1⟩
set_option maxRecDepth 100000 in
set_option maxHeartbeats 1000000 in
theorem loadf_short (G : Geo w0 base g rb bx mb) (Y : Byt w0 B n c l) (h : StV w0 base g rb bx mb n c id wd B E Ov X O p w) {m : UInt8} {s : List UInt8} (hd : l.drop p = m :: s) (hs : s.length < m.toNat) : Calls Tryz.prog 191 #[(.pointer (some ⟨rb, 0, none⟩))] w fun e w' => e = .panicked [{ v := .iface 239 (.agg #[.int .i64 2]), recovered := false }] ∧ StV w0 base g rb bx mb n c id wd B E Ov X O (p + 1) w' := by
  have hlp : p + 1 + s.length = n := by
    have := congrArg List.length hd
    rw [List.length_drop, Y.len, List.length_cons] at this
    omega
  have hd1 : (l.drop p).take 1 = [m] := by rw [hd]; rfl
  have hd2 : l.drop (p + 1) = s := by rw [← List.drop_drop, hd]; rfl
  have ht := Lib.hid (take_st G Y h 1 (by omega) (by omega))
  rw [hd1] at ht
  have hm8 := m.toNat_lt
  have hwm : IntKind.i64.wrap (m.toNat : Int) = (m.toNat : Int) := by rw [IntKind.wrap_i64]; omega
  have ht2 := Lib.hid fun (W : World) (h : StV w0 base g rb bx mb n c id wd B E Ov X O (p + 1) W) => take_sn Y h m.toNat (by omega) (by omega)
  clear h hd1 hd2 hd hlp hs Y
  obtain ⟨mm, hmm⟩ : ∃ mm, m.toNat = mm := ⟨_, rfl⟩
  rw [hmm] at hwm ht2
  (try rw [hmm] at hsc)
  (try rw [hmm])
  obtain ⟨q, hq⟩ : ∃ q, p + 1 + mm = q := ⟨_, rfl⟩
  (try rw [hq] at ht2)
  (try rw [hq])
  clear hq
  go_enter Tryz.func191, Tryz.ntmps191
  go_wp2_with fail
  refine ht.out.mono ?_
  rintro e w1 ⟨B1, c1, rfl, hr1, hc1, hm1, h1⟩
  replace h1 := Lib.hid h1
  rcases hr1.place with h0 | ⟨b, off, hB1, hbs⟩
  · cases h0
  subst hB1
  have hcell := hr1.cells b off rfl 0 (by simp)
  simp only [List.getD_cons_zero, Nat.add_zero] at hcell
  rw [hmm] at hcell
  clear hr1
  go_wp2_with fail
  refine (ht2.out _ h1.out).mono ?_
  rintro e w2 ⟨rfl, h2⟩
  go_wp2
  exact ⟨rfl, rfl, h2⟩
set_option maxRecDepth 100000 in
set_option maxHeartbeats 1000000 in
theorem loadf_text (G : Geo w0 base g rb bx mb) (Y : Byt w0 B n c l) (h : StV w0 base g rb bx mb n c id wd B E Ov X O p w) {m : UInt8} {s : List UInt8} (hd : l.drop p = m :: s) (hs : m.toNat ≤ s.length) (ht0 : (textS (s.take m.toNat)).1 = false) :
    Calls Tryz.prog 191 #[(.pointer (some ⟨rb, 0, none⟩))] w fun e w' => e = .panicked [{ v := .iface 239 (.agg #[.int .i64 2]), recovered := false }] ∧ StV w0 base g rb bx mb n c id wd B E Ov X O (p + 1 + m.toNat) w' := by
  have hlp : p + 1 + s.length = n := by
    have := congrArg List.length hd
    rw [List.length_drop, Y.len, List.length_cons] at this
    omega
  have hd1 : (l.drop p).take 1 = [m] := by rw [hd]; rfl
  have hd2 : l.drop (p + 1) = s := by rw [← List.drop_drop, hd]; rfl
  have ht := Lib.hid (take_st G Y h 1 (by omega) (by omega))
  rw [hd1] at ht
  have hm8 := m.toNat_lt
  have hwm : IntKind.i64.wrap (m.toNat : Int) = (m.toNat : Int) := by rw [IntKind.wrap_i64]; omega
  have ht2 := Lib.hid fun (W : World) (h : StV w0 base g rb bx mb n c id wd B E Ov X O (p + 1) W) => take_st G Y h m.toNat (by omega) (by omega)
  rw [hd2] at ht2
  have hfew : (s.take m.toNat).length = m.toNat := by simp; omega
  have hmm9 : m.toNat ≤ 1000000 := by omega
  clear h hd1 hd2 hd hlp hs Y
  have hsc := Lib.hid fun (A : Option Addr) (c : Nat) (W : World) (hr : RdB W W.heap.size A (s.take m.toNat)) => scan_no (c := c) (s.take m.toNat) _ _ ht0 rfl hfew hmm9 W hr
  clear ht0
  obtain ⟨mm, hmm⟩ : ∃ mm, m.toNat = mm := ⟨_, rfl⟩
  rw [hmm] at hwm ht2
  (try rw [hmm] at hsc)
  (try rw [hmm])
  obtain ⟨q, hq⟩ : ∃ q, p + 1 + mm = q := ⟨_, rfl⟩
  (try rw [hq] at ht2)
  (try rw [hq])
  clear hq
  go_enter Tryz.func191, Tryz.ntmps191
  go_wp2_with fail
  refine ht.out.mono ?_
  rintro e w1 ⟨B1, c1, rfl, hr1, hc1, hm1, h1⟩
  replace h1 := Lib.hid h1
  rcases hr1.place with h0 | ⟨b, off, hB1, hbs⟩
  · cases h0
  subst hB1
  have hcell := hr1.cells b off rfl 0 (by simp)
  simp only [List.getD_cons_zero, Nat.add_zero] at hcell
  rw [hmm] at hcell
  clear hr1
  go_wp2_with fail
  refine (ht2.out _ h1.out).mono ?_
  rintro e w2 ⟨B2, c2, rfl, hr2, hc2, hm2, h2⟩
  have hsc2 := Lib.hid (hsc.out _ c2 _ hr2)
  replace h2 := Lib.hid h2
  clear hr2 hsc ht ht2 h1
  generalize (textS (s.take mm)).2 = q at hsc2
  go_wp2_with fail
  refine hsc2.out.mono ?_
  rintro e w3 ⟨rfl, hb3⟩
  have h3 := (h2.out.go hb3).go ((Below.refl w3.heap.size w3).alloc (Nat.le_refl _) (.cells #[.int .i64 0, .bool false, .slice none 0 0, .int .i64 0, .int .i64 0, .bool false] 95))
  replace h3 := Lib.hid h3
  clear h2 hsc2
  go_wp2_with fail
  refine (rmust_no 2 _).mono ?_
  rintro e w4 ⟨rfl, rfl⟩
  go_wp2
  exact ⟨rfl, rfl, h3.out⟩
set_option maxRecDepth 100000 in
set_option maxHeartbeats 1000000 in
theorem loadf_nar (h1' : 1 ≤ id) (h4' : id ≤ 4) (G : Geo w0 base g rb bx mb) (Y : Byt w0 B n c l) (h : StV w0 base g rb bx mb n c id wd B E Ov X O p w) {m : UInt8} {s : List UInt8} (hd : l.drop p = m :: s) (hs : m.toNat ≤ s.length) (ht0 : (textS (s.take m.toNat)).1 = true) (it : Cal.Item) (hit : textV 1125899906842624 (s.take m.toNat) = it) (hk : (it.kind : Int) = 4) :
    Calls Tryz.prog 191 #[(.pointer (some ⟨rb, 0, none⟩))] w fun e w' => e = .returned (.tuple #[]) ∧ StV w0 base g rb bx mb n c id wd B E Ov (quN id) O (p + 1 + m.toNat) w' := by
  replace hk := Lib.hid hk
  have hlp : p + 1 + s.length = n := by
    have := congrArg List.length hd
    rw [List.length_drop, Y.len, List.length_cons] at this
    omega
  have hd1 : (l.drop p).take 1 = [m] := by rw [hd]; rfl
  have hd2 : l.drop (p + 1) = s := by rw [← List.drop_drop, hd]; rfl
  have ht := Lib.hid (take_st G Y h 1 (by omega) (by omega))
  rw [hd1] at ht
  have hm8 := m.toNat_lt
  have hwm : IntKind.i64.wrap (m.toNat : Int) = (m.toNat : Int) := by rw [IntKind.wrap_i64]; omega
  have ht2 := Lib.hid fun (W : World) (h : StV w0 base g rb bx mb n c id wd B E Ov X O (p + 1) W) => take_st G Y h m.toNat (by omega) (by omega)
  rw [hd2] at ht2
  have hfew : (s.take m.toNat).length = m.toNat := by simp; omega
  have hmm9 : m.toNat ≤ 1000000 := by omega
  clear h hd1 hd2 hd hlp hs Y
  have hsc := Lib.hid fun (A : Option Addr) (c : Nat) (W : World) (hr : RdB W W.heap.size A (s.take m.toNat)) => scan_yes (c := c) (s.take m.toNat) it _ ht0 hit hfew hmm9 W hr
  clear ht0 hit
  obtain ⟨mm, hmm⟩ : ∃ mm, m.toNat = mm := ⟨_, rfl⟩
  rw [hmm] at hwm ht2
  (try rw [hmm] at hsc)
  (try rw [hmm])
  obtain ⟨q, hq⟩ : ∃ q, p + 1 + mm = q := ⟨_, rfl⟩
  (try rw [hq] at ht2)
  (try rw [hq])
  clear hq
  go_enter Tryz.func191, Tryz.ntmps191
  go_wp2_with fail
  refine ht.out.mono ?_
  rintro e w1 ⟨B1, c1, rfl, hr1, hc1, hm1, h1⟩
  replace h1 := Lib.hid h1
  rcases hr1.place with h0 | ⟨b, off, hB1, hbs⟩
  · cases h0
  subst hB1
  have hcell := hr1.cells b off rfl 0 (by simp)
  simp only [List.getD_cons_zero, Nat.add_zero] at hcell
  rw [hmm] at hcell
  clear hr1
  go_wp2_with fail
  refine (ht2.out _ h1.out).mono ?_
  rintro e w2 ⟨B2, c2, rfl, hr2, hc2, hm2, h2⟩
  have hsc2 := Lib.hid (hsc.out _ c2 _ hr2)
  replace h2 := Lib.hid h2
  clear hr2 hsc ht ht2 h1
  clear hmm
  go_wp2_with fail
  refine hsc2.out.mono ?_
  rintro e w3 ⟨A3, n3, c3, rfl, hpi, hb3⟩
  have hv3 : IsT w3 (.slice A3 n3 c3) 2000 it.d := by
    obtain ⟨A9, c9, zs, he, r1, r2, r3, r4, r5, -⟩ := hpi
    simp at he
    obtain ⟨rfl, rfl, rfl⟩ := he
    exact ⟨_, _, _, rfl, r1, r2, r3, r4, r5⟩
  have hal : Below w3.heap.size w3 (w3.alloc (.cells #[.int .i64 (it.kind : Nat), .bool it.neg, .slice A3 n3 c3, .int .i64 it.k, .int .i64 it.big, .bool it.cut] 95)) := (Below.refl _ _).alloc (Nat.le_refl _) _
  have hI := pBlk_made w3 #[.int .i64 (it.kind : Nat), .bool it.neg, .slice A3 n3 c3, .int .i64 it.k, .int .i64 it.big, .bool it.cut] 95
  have h3 := (h2.out.go hb3).go hal
  have hv4 := hv3.below hal
  replace h3 := Lib.hid h3
  clear h2 hsc2 hb3 hpi hv3 hal
  go_wp2_with fail
  refine (rmust_yes 2 _).mono ?_
  rintro e w4 ⟨rfl, rfl⟩
  obtain ⟨W, hW⟩ : ∃ W, w3.alloc (.cells #[.int .i64 (it.kind : Nat), .bool it.neg, .slice A3 n3 c3, .int .i64 it.k, .int .i64 it.big, .bool it.cut] 95) = W := ⟨_, rfl⟩
  obtain ⟨gI, hgI⟩ : ∃ gI, w3.heap.size = gI := ⟨_, rfl⟩
  rw [hW] at hI h3 hv4 ⊢
  rw [hgI] at hI ⊢
  clear hW hgI
  obtain ⟨i0, i1, i2, i3, i4, i5⟩ := cells6S hI
  have hIl := hI.lt
  have e0 := h3.out.run.cell 0 _ rfl
  have hrl := h3.out.run.lt
  have hVa := Lib.hid hI
  clear hI
  rw [hk.out] at i0
  obtain ⟨s1, s2, -⟩ := quS_bnd h1' h4'
  have hqz := Lib.hid fun (W : World) (hc : W.cell? ⟨g, 1, none⟩ = some (.int .i64 (fW id))) => qsz_q (g := g) h1' h4' hc
  have hsh := Lib.hid fun (W : World) (v : Value) (hv : IsT W v 1 1) => shl_y (k' := 18) (N := quN id) ((quS id : Int) - 1) (quS id - 1) (by omega) (by omega) hv (by decide) (by unfold quN; rw [Nat.one_mul]) (by unfold quN; exact two_word (by omega))
  have hse := Lib.hid fun (W : World) (v : Value) (hS : StV w0 base g rb bx mb n c id wd B E Ov X O q W) (hv : IsT W v 18 (quN id)) => set_o (hS.ob) h1' h4' hS.qu hv (by decide) (bl_iff.2 (quN_lt h1' h4').1)
  have hwr : IntKind.i64.wrap ((quS id : Int) - 1) = (quS id : Int) - 1 := by rw [IntKind.wrap_i64]; omega
  have hgc := Lib.hid fun (W : World) (hS : StV w0 base g rb bx mb n c id wd B E Ov X O q W) => show W.cell? ⟨g, 1, none⟩ = some (.int .i64 (fW id)) by obtain ⟨A9, n9, c9, p9, -⟩ := hS.qu; exact p9.cell 1 _ rfl
  have hrc := Lib.hid fun (W : World) (hS : StV w0 base g rb bx mb n c id wd B E Ov X O q W) => show (rb < (W).heap.size ∧ (W).cell? ⟨rb, 0, none⟩ = some (.pointer (some ⟨g, 0, none⟩))) from ⟨hS.run.lt, hS.run.cell 0 _ rfl⟩
  have hrm := Lib.hid fun (W W' : World) (hS : StV w0 base g rb bx mb n c id wd B E Ov X O q W) (hm : Mut g W W') => show (rb < (W').heap.size ∧ (W').cell? ⟨rb, 0, none⟩ = some (.pointer (some ⟨g, 0, none⟩))) from ⟨(hS.run.mut hm (Ne.symm G.gr)).lt, (hS.run.mut hm (Ne.symm G.gr)).cell 0 _ rfl⟩
  have h3d := Lib.hid (h3.out.go (Below.refl W.heap.size W).drew)
  have hbits := Lib.hid fun (W W' : World) (hS : StV w0 base g rb bx mb n c id wd B E Ov X O q W) (hq : QuF (fun b => Ov.ownBlock = some b) g id (quN id) W') (hm : Mut g W W') => hS.bits G hq hm
  clear hv4 s1 s2 h3 hVa
  obtain ⟨N, hN⟩ : ∃ N, quN id = N := ⟨_, rfl⟩
  rw [hN] at hsh hse hbits
  replace hN := Lib.hid hN
  generalize quS id = S at hqz hsh hwr
  go_wp2_with fail
  first | (go_region_held3 (fun W => (rb < (W).heap.size ∧ (W).cell? ⟨rb, 0, none⟩ = some (.pointer (some ⟨g, 0, none⟩)))) (first | exact hrc.out _ h3d.out | with_reducible assumption | exact hrm.out _ _ ((h3d.out.go hb5).go hb7) hm8 | exact hrc.out _ ((h3d.out.go hb5).go hb7) | exact hrc.out _ (h3d.out.go hb5) | fail)
    (first
      | (go_at_call 141; with_reducible refine Calls.mono (of_x _) ?_; rintro e w5 ⟨v5, rfl, hv5, hb5⟩)
      | (go_at_call 183; with_reducible refine Calls.mono (hqz.out _ (hgc.out _ (h3d.out.go hb5))) ?_; rintro e w6 ⟨rfl, rfl⟩)
      | (go_at_call 72; with_reducible refine Calls.mono (hsh.out _ _ hv5) ?_; rintro e w7 ⟨A7, n7, c7, rfl, hv7, hf7, hb7⟩)
      | (go_at_call 242; with_reducible refine Calls.mono (hse.out _ _ ((h3d.out.go hb5).go hb7) hv7) ?_; rintro e w8 ⟨rfl, hq8, hm8⟩)
      | fail)) | fail
  all_goals
    have h8 := hbits.out _ _ ((h3d.out.go hb5).go hb7) hq8 hm8
    go_wp2
    exact ⟨rfl, .tuple #[], by simp [results, Tryz.results191, go_sem], rfl, by rw [hN.out]; exact h8⟩
set_option maxRecDepth 100000 in
set_option maxHeartbeats 1000000 in
theorem loadf_word (G : Geo w0 base g rb bx mb) (Y : Byt w0 B n c l) (h : StV w0 base g rb bx mb n c id wd B E Ov X O p w) {m : UInt8} {s : List UInt8} (hd : l.drop p = m :: s) (hs : m.toNat ≤ s.length) (ht0 : (textS (s.take m.toNat)).1 = true) (it : Cal.Item) (hit : textV 1125899906842624 (s.take m.toNat) = it)
    (hk : ((it.kind : Int) == 4) = false) (hk2 : ((it.kind : Int) == 1) = false ∨ ((it.kind : Int) == 1) = true ∧ (it.big == 0) = false) :
    Calls Tryz.prog 191 #[(.pointer (some ⟨rb, 0, none⟩))] w fun e w' => e = .panicked [{ v := .iface 239 (.agg #[.int .i64 8]), recovered := false }] ∧ StV w0 base g rb bx mb n c id wd B E Ov X O (p + 1 + m.toNat) w' := by
  have hlp : p + 1 + s.length = n := by
    have := congrArg List.length hd
    rw [List.length_drop, Y.len, List.length_cons] at this
    omega
  have hd1 : (l.drop p).take 1 = [m] := by rw [hd]; rfl
  have hd2 : l.drop (p + 1) = s := by rw [← List.drop_drop, hd]; rfl
  have ht := Lib.hid (take_st G Y h 1 (by omega) (by omega))
  rw [hd1] at ht
  have hm8 := m.toNat_lt
  have hwm : IntKind.i64.wrap (m.toNat : Int) = (m.toNat : Int) := by rw [IntKind.wrap_i64]; omega
  have ht2 := Lib.hid fun (W : World) (h : StV w0 base g rb bx mb n c id wd B E Ov X O (p + 1) W) => take_st G Y h m.toNat (by omega) (by omega)
  rw [hd2] at ht2
  have hfew : (s.take m.toNat).length = m.toNat := by simp; omega
  have hmm9 : m.toNat ≤ 1000000 := by omega
  clear h hd1 hd2 hd hlp hs Y
  have hsc := Lib.hid fun (A : Option Addr) (c : Nat) (W : World) (hr : RdB W W.heap.size A (s.take m.toNat)) => scan_yes (c := c) (s.take m.toNat) it _ ht0 hit hfew hmm9 W hr
  clear ht0 hit
  obtain ⟨mm, hmm⟩ : ∃ mm, m.toNat = mm := ⟨_, rfl⟩
  rw [hmm] at hwm ht2
  (try rw [hmm] at hsc)
  (try rw [hmm])
  obtain ⟨q, hq⟩ : ∃ q, p + 1 + mm = q := ⟨_, rfl⟩
  (try rw [hq] at ht2)
  (try rw [hq])
  clear hq
  go_enter Tryz.func191, Tryz.ntmps191
  go_wp2_with fail
  refine ht.out.mono ?_
  rintro e w1 ⟨B1, c1, rfl, hr1, hc1, hm1, h1⟩
  replace h1 := Lib.hid h1
  rcases hr1.place with h0 | ⟨b, off, hB1, hbs⟩
  · cases h0
  subst hB1
  have hcell := hr1.cells b off rfl 0 (by simp)
  simp only [List.getD_cons_zero, Nat.add_zero] at hcell
  rw [hmm] at hcell
  clear hr1
  go_wp2_with fail
  refine (ht2.out _ h1.out).mono ?_
  rintro e w2 ⟨B2, c2, rfl, hr2, hc2, hm2, h2⟩
  have hsc2 := Lib.hid (hsc.out _ c2 _ hr2)
  replace h2 := Lib.hid h2
  clear hr2 hsc ht ht2 h1
  clear hmm
  go_wp2_with fail
  refine hsc2.out.mono ?_
  rintro e w3 ⟨A3, n3, c3, rfl, hpi, hb3⟩
  have hv3 : IsT w3 (.slice A3 n3 c3) 2000 it.d := by
    obtain ⟨A9, c9, zs, he, r1, r2, r3, r4, r5, -⟩ := hpi
    simp at he
    obtain ⟨rfl, rfl, rfl⟩ := he
    exact ⟨_, _, _, rfl, r1, r2, r3, r4, r5⟩
  have hal : Below w3.heap.size w3 (w3.alloc (.cells #[.int .i64 (it.kind : Nat), .bool it.neg, .slice A3 n3 c3, .int .i64 it.k, .int .i64 it.big, .bool it.cut] 95)) := (Below.refl _ _).alloc (Nat.le_refl _) _
  have hI := pBlk_made w3 #[.int .i64 (it.kind : Nat), .bool it.neg, .slice A3 n3 c3, .int .i64 it.k, .int .i64 it.big, .bool it.cut] 95
  have h3 := (h2.out.go hb3).go hal
  have hv4 := hv3.below hal
  replace h3 := Lib.hid h3
  clear h2 hsc2 hb3 hpi hv3 hal
  go_wp2_with fail
  refine (rmust_yes 2 _).mono ?_
  rintro e w4 ⟨rfl, rfl⟩
  obtain ⟨W, hW⟩ : ∃ W, w3.alloc (.cells #[.int .i64 (it.kind : Nat), .bool it.neg, .slice A3 n3 c3, .int .i64 it.k, .int .i64 it.big, .bool it.cut] 95) = W := ⟨_, rfl⟩
  obtain ⟨gI, hgI⟩ : ∃ gI, w3.heap.size = gI := ⟨_, rfl⟩
  rw [hW] at hI h3 hv4 ⊢
  rw [hgI] at hI ⊢
  clear hW hgI
  obtain ⟨i0, i1, i2, i3, i4, i5⟩ := cells6S hI
  have hIl := hI.lt
  have e0 := h3.out.run.cell 0 _ rfl
  have hrl := h3.out.run.lt
  have hVa := Lib.hid hI
  clear hI
  obtain ⟨kd, hkd⟩ : ∃ kd, (it.kind : Int) = kd := ⟨_, rfl⟩
  rw [hkd] at i0 hk hk2
  obtain ⟨bg, hbg⟩ : ∃ bg, it.big = bg := ⟨_, rfl⟩
  rw [hbg] at i4 hk2
  clear hv4 hVa hkd hbg
  rcases hk2 with k1 | ⟨k1, k2⟩
  all_goals
    go_wp2_with fail
    refine (rmust_no 8 _).mono ?_
    rintro e w5 ⟨rfl, rfl⟩
    go_wp2
    exact ⟨rfl, rfl, h3.out⟩
set_option maxRecDepth 100000 in
set_option maxHeartbeats 2000000 in
theorem loadf_num (h1' : 1 ≤ id) (h4' : id ≤ 4) (G : Geo w0 base g rb bx mb) (Y : Byt w0 B n c l) (h : StV w0 base g rb bx mb n c id wd B E Ov X O p w) {m : UInt8} {s : List UInt8} (hd : l.drop p = m :: s) (hs : m.toNat ≤ s.length) (ht0 : (textS (s.take m.toNat)).1 = true) (it : Cal.Item) (hit : textV 1125899906842624 (s.take m.toNat) = it)
    (hk : (it.kind : Int) = 1) (hk2 : it.big = 0) :
    Calls Tryz.prog 191 #[(.pointer (some ⟨rb, 0, none⟩))] w fun e w' => (∃ M, ldN id it.neg it.d it.k = some M ∧ e = .returned (.tuple #[]) ∧ StV w0 base g rb bx mb n c id wd B E Ov M O (p + 1 + m.toNat) w') ∨ (ldN id it.neg it.d it.k = none ∧ e = .panicked [{ v := .iface 239 (.agg #[.int .i64 8]), recovered := false }] ∧ StV w0 base g rb bx mb n c id wd B E Ov X O (p + 1 + m.toNat) w') := by
  have hok : ItemOk it := by
    have h9 := text_item 1125899906842624 (s.take m.toNat)
    rw [hit] at h9
    rcases h9 with ⟨-, h9⟩ | h9 | h9 | h9
    · exact h9
    all_goals omega
  obtain ⟨d1, d2, d3⟩ := hok.num hk2
  clear hok
  replace hk := Lib.hid hk
  replace hk2 := Lib.hid hk2
  have hlp : p + 1 + s.length = n := by
    have := congrArg List.length hd
    rw [List.length_drop, Y.len, List.length_cons] at this
    omega
  have hd1 : (l.drop p).take 1 = [m] := by rw [hd]; rfl
  have hd2 : l.drop (p + 1) = s := by rw [← List.drop_drop, hd]; rfl
  have ht := Lib.hid (take_st G Y h 1 (by omega) (by omega))
  rw [hd1] at ht
  have hm8 := m.toNat_lt
  have hwm : IntKind.i64.wrap (m.toNat : Int) = (m.toNat : Int) := by rw [IntKind.wrap_i64]; omega
  have ht2 := Lib.hid fun (W : World) (h : StV w0 base g rb bx mb n c id wd B E Ov X O (p + 1) W) => take_st G Y h m.toNat (by omega) (by omega)
  rw [hd2] at ht2
  have hfew : (s.take m.toNat).length = m.toNat := by simp; omega
  have hmm9 : m.toNat ≤ 1000000 := by omega
  clear h hd1 hd2 hd hlp hs Y
  have hsc := Lib.hid fun (A : Option Addr) (c : Nat) (W : World) (hr : RdB W W.heap.size A (s.take m.toNat)) => scan_yes (c := c) (s.take m.toNat) it _ ht0 hit hfew hmm9 W hr
  clear ht0 hit
  obtain ⟨mm, hmm⟩ : ∃ mm, m.toNat = mm := ⟨_, rfl⟩
  rw [hmm] at hwm ht2
  (try rw [hmm] at hsc)
  (try rw [hmm])
  obtain ⟨q, hq⟩ : ∃ q, p + 1 + mm = q := ⟨_, rfl⟩
  (try rw [hq] at ht2)
  (try rw [hq])
  clear hq
  go_enter Tryz.func191, Tryz.ntmps191
  go_wp2_with fail
  refine ht.out.mono ?_
  rintro e w1 ⟨B1, c1, rfl, hr1, hc1, hm1, h1⟩
  replace h1 := Lib.hid h1
  rcases hr1.place with h0 | ⟨b, off, hB1, hbs⟩
  · cases h0
  subst hB1
  have hcell := hr1.cells b off rfl 0 (by simp)
  simp only [List.getD_cons_zero, Nat.add_zero] at hcell
  rw [hmm] at hcell
  clear hr1
  go_wp2_with fail
  refine (ht2.out _ h1.out).mono ?_
  rintro e w2 ⟨B2, c2, rfl, hr2, hc2, hm2, h2⟩
  have hsc2 := Lib.hid (hsc.out _ c2 _ hr2)
  replace h2 := Lib.hid h2
  clear hr2 hsc ht ht2 h1
  clear hmm
  go_wp2_with fail
  refine hsc2.out.mono ?_
  rintro e w3 ⟨A3, n3, c3, rfl, hpi, hb3⟩
  have hv3 : IsT w3 (.slice A3 n3 c3) 2000 it.d := by
    obtain ⟨A9, c9, zs, he, r1, r2, r3, r4, r5, -⟩ := hpi
    simp at he
    obtain ⟨rfl, rfl, rfl⟩ := he
    exact ⟨_, _, _, rfl, r1, r2, r3, r4, r5⟩
  have hal : Below w3.heap.size w3 (w3.alloc (.cells #[.int .i64 (it.kind : Nat), .bool it.neg, .slice A3 n3 c3, .int .i64 it.k, .int .i64 it.big, .bool it.cut] 95)) := (Below.refl _ _).alloc (Nat.le_refl _) _
  have hI := pBlk_made w3 #[.int .i64 (it.kind : Nat), .bool it.neg, .slice A3 n3 c3, .int .i64 it.k, .int .i64 it.big, .bool it.cut] 95
  have h3 := (h2.out.go hb3).go hal
  have hv4 := hv3.below hal
  replace h3 := Lib.hid h3
  clear h2 hsc2 hb3 hpi hv3 hal
  go_wp2_with fail
  refine (rmust_yes 2 _).mono ?_
  rintro e w4 ⟨rfl, rfl⟩
  obtain ⟨W, hW⟩ : ∃ W, w3.alloc (.cells #[.int .i64 (it.kind : Nat), .bool it.neg, .slice A3 n3 c3, .int .i64 it.k, .int .i64 it.big, .bool it.cut] 95) = W := ⟨_, rfl⟩
  obtain ⟨gI, hgI⟩ : ∃ gI, w3.heap.size = gI := ⟨_, rfl⟩
  rw [hW] at hI h3 hv4 ⊢
  rw [hgI] at hI ⊢
  clear hW hgI
  obtain ⟨i0, i1, i2, i3, i4, i5⟩ := cells6S hI
  have hIl := hI.lt
  have e0 := h3.out.run.cell 0 _ rfl
  have hrl := h3.out.run.lt
  have hVa := Lib.hid hI
  clear hI
  rw [hk.out] at i0
  rw [hk2.out] at i4
  have hdc := Lib.hid (xdec_yes it.neg it.k hv4.isN (by decide) d1 ⟨d2, d3⟩)
  have hlo := Lib.hid fun (W : World) (A : Option Addr) (n9 c9 : Nat) (hS : StV w0 base g rb bx mb n c id wd B E Ov X O q W) (hv : IsT W (.slice A n9 c9) 128 it.d) => load_o (hS.ob) it.neg h1' h4' hS.qu hv ⟨d2, d3⟩
  clear hv4 hk hk2
  obtain ⟨D, hD⟩ : ∃ D, it.d = D := ⟨_, rfl⟩
  obtain ⟨k, hk9⟩ : ∃ k, it.k = k := ⟨_, rfl⟩
  obtain ⟨ng, hng⟩ : ∃ ng, it.neg = ng := ⟨_, rfl⟩
  rw [hD, hk9, hng] at hdc hlo
  rw [hk9] at i3 d2 d3
  rw [hng] at i1
  have hE : Hid (ldN id it.neg it.d it.k = ldN id ng D k) := by show _ = _; rw [hD, hk9, hng]
  clear hD hk9 hng
  go_wp2_with fail
  refine (rmust_yes 8 _).mono ?_
  rintro e w5 ⟨rfl, rfl⟩
  go_wp2_with fail
  refine hdc.out.mono ?_
  rintro e w6 ⟨v6, rfl, hv6, hb6⟩
  obtain ⟨A6, c6, z6, rfl, -⟩ := _root_.id hv6
  obtain ⟨n6, hn6⟩ : ∃ n, z6.length = n := ⟨_, rfl⟩
  rw [hn6] at hv6 ⊢
  clear hn6
  have hal : Below w6.heap.size w6 (w6.alloc (.cells #[.bool ng, .slice A6 n6 c6, .int .i64 k, .int .i64 k] 101)) := (Below.refl _ _).alloc (Nat.le_refl _) _
  have pX := pBlk_made w6 #[.bool ng, .slice A6 n6 c6, .int .i64 k, .int .i64 k] 101
  have h6 := Lib.hid ((h3.out.go hb6).go hal)
  have hv7 := hv6.below hal
  have e6 := h6.out.run.cell 0 _ rfl
  have hrl6 := h6.out.run.lt
  obtain ⟨W2, hW2⟩ : ∃ W2, w6.alloc (.cells #[.bool ng, .slice A6 n6 c6, .int .i64 k, .int .i64 k] 101) = W2 := ⟨_, rfl⟩
  obtain ⟨gX, hgX⟩ : ∃ gX, w6.heap.size = gX := ⟨_, rfl⟩
  rw [hW2] at pX h6 hv7 e6 hrl6
  rw [hgX] at pX
  have h6d := Lib.hid (h6.out.go (Below.refl W2.heap.size W2).drew)
  have hlo2 := Lib.hid (hlo.out _ _ _ _ h6d.out (hv7.below (Below.refl W2.heap.size W2).drew))
  obtain ⟨j0, j1, j2, j3⟩ := cells4R pX
  have hXl := pX.lt
  clear hdc hlo h3 hb6 hv6 hv7 hal i0 i1 i2 i3 i4 i5 e0 hrl hIl hVa pX d2 d3
  go_wp2_with fail
  (try rw [hW2])
  (try rw [hgX])
  clear hW2 hgX
  cases hM : ldN id ng D k with
  | some M =>
    have hl3 : Hid (Calls Tryz.prog 243 #[(.pointer (some ⟨g, 0, none⟩)), .agg #[.bool ng, .slice A6 n6 c6, .int .i64 k, .int .i64 k]] W2.drew fun e w' => e = .returned (.int .i64 0) ∧ StV w0 base g rb bx mb n c id wd B E Ov M O q w') := Lib.hid (Calls.mono hlo2.out (by
      rintro e w7 (⟨M', hM', rfl, hq7, hm7⟩ | ⟨hM', -⟩)
      · rw [hM] at hM'
        injection hM' with hM'
        subst hM'
        exact ⟨rfl, h6d.out.bits G hq7 hm7⟩
      · rw [hM] at hM'; cases hM'))
    clear hlo2
    first | (go_region_law (first | (go_simp; go_at_call 243; refine Calls.mono hl3.out ?_; rintro e w7 ⟨rfl, h7⟩; replace h7 := Lib.hid h7) | (go_simp; go_at_call 194; refine Calls.mono (rmust_yes 8 _) ?_; rintro e w8 ⟨rfl, rfl⟩) | fail)) | fail
    all_goals
      go_wp2
      exact ⟨rfl, .tuple #[], by simp [results, Tryz.results191, go_sem], .inl ⟨M, by rw [hE.out]; exact hM, rfl, h7.out⟩⟩
  | none =>
    have hl3 : Hid (Calls Tryz.prog 243 #[(.pointer (some ⟨g, 0, none⟩)), .agg #[.bool ng, .slice A6 n6 c6, .int .i64 k, .int .i64 k]] W2.drew fun e w' => e = .returned (.int .i64 8) ∧ StV w0 base g rb bx mb n c id wd B E Ov X O q w') := Lib.hid (Calls.mono hlo2.out (by
      rintro e w7 (⟨M', hM', -⟩ | ⟨hM', rfl, hq7, hm7⟩)
      · rw [hM] at hM'; cases hM'
      · exact ⟨rfl, h6d.out.bits G hq7 hm7⟩))
    clear hlo2
    go_region_dies
    all_goals
      go_at_call 243
      refine Calls.mono hl3.out ?_
      rintro e w7 ⟨rfl, h7⟩
      replace h7 := Lib.hid h7
      rename_i hK
      refine hK _ _ ?_
      clear hK
      (refine wpAny_take (i := 8) (v := ?_) rfl (by kernel_rfl) (by kernel_rfl) (by kernel_rfl) (fun _ _ _ h => h) (Or.inl ⟨by rfl, ?_⟩) ?_; rotate_left; (focus ((intro w9; go_simp) <;> with_reducible rfl)))
      (refine wpAny_take (i := 9) (v := ?_) rfl (by kernel_rfl) (by kernel_rfl) (by kernel_rfl) (fun _ _ _ h => h) (Or.inl ⟨by rfl, ?_⟩) ?_; rotate_left; (focus ((intro w9; go_simp) <;> with_reducible rfl)))
      refine wpAny_ready (rs := [10]) (by kernel_rfl) (by simp) ?_
      refine AllReady.cons rfl (fun K hK => ?_) AllReady.nil
      go_simp
      go_at_call 194
      refine Calls.mono (rmust_no 8 _) ?_
      rintro e w8 ⟨rfl, rfl⟩
      go_wp2
      exact ⟨rfl, .inr ⟨by rw [hE.out]; exact hM, rfl, h7.out⟩⟩
end
end Go.Proofs.YtobokaafmcfeaaaGreatDoor
namespace Go.Proofs.YtobokaafmcfeaaaGreatDoor
open Go.RowKit Go.Cal
theorem sunder_u64s : Tryz.prog.underlying 32 = some (.slice 22) := by kernel_rfl
/-- A word, appended to a row of one's own: it lies where it lay, or in new memory. -/
theorem app_own {w : World} {base n s x c1 : Nat} {v : Value} {xs : List Nat} (ty : TypeId) (hown : w.ownsRow base 22 1 v n (lU xs)) (hx : w.cell? ⟨s, 0, none⟩ = some (.int .u64 (x : Nat))) (hn : n ≤ 1000000) (hb : base ≤ w.heap.size) :
    ∃ A' n' c' w', (Builtin.append_ #[32, 32] ty #[v, .slice (some ⟨s, 0, none⟩) 1 c1]).run Tryz.prog w = .ok (.slice A' n' c') w' ∧ w'.ownsRow base 22 1 (.slice A' n' c') (n + 1) (lU (xs ++ [x])) ∧ w.grownBy w' v.ownBlock ∧
      ((Value.slice A' n' c').ownBlock = v.ownBlock ∨ ∀ b, (Value.slice A' n' c').ownBlock = some b → w.heap.size ≤ b) := by
  obtain ⟨i0, hi, hi0, hi1, hi2⟩ := info_parts info_u64
  have hnews : ∀ j u, ([.int .u64 (x : Nat)] : List Value)[j]? = some u → w.cell? ((⟨s, 0, none⟩ : Addr).add j) = some u := fun j u hj => by
    rcases j with _ | j
    · simp at hj
      subst hj
      simpa [Addr.add] using hx
    · simp at hj
  have hone : ∀ u ∈ ([.int .u64 (x : Nat)] : List Value), u.oneCell' = true := fun u hu => by
    simp at hu; subst hu; rfl
  have hap : lU xs ++ [.int .u64 (x : Nat)] = lU (xs ++ [x]) := by simp [lU]
  have hsm : n + 1 ≤ maxLen := by unfold maxLen; omega
  obtain ⟨v', w', hrun, ho, hg, -⟩ := run_append_own (P := Tryz.prog) w base 32 ty 22 i0 (.int .u64 0) 1 8 sunder_u64s hi hi0 hi1 hi2 rfl (by decide) v n (lU xs) hown ⟨s, 0, none⟩ 1 c1 [.int .u64 (x : Nat)] rfl hnews hone hsm (by omega) hb
  have hplace : v'.ownBlock = v.ownBlock ∨ ∀ b, v'.ownBlock = some b → w.heap.size ≤ b := by
    obtain ⟨hlen, hcase⟩ := hown
    rcases hcase with ⟨rfl, rfl⟩ | ⟨gg, cap, cur, rfl, hbg, hcur, hnc, hcm, hsz, htk⟩
    · obtain ⟨v2, w2, hrun2, ho2, -, -⟩ := run_append_own (P := Tryz.prog) w w.heap.size 32 ty 22 i0 (.int .u64 0) 1 8 sunder_u64s hi hi0 hi1 hi2 rfl (by decide) (.slice none 0 0) 0 [] (World.ownsRow_nil w _ _ _) ⟨s, 0, none⟩ 1 c1 [.int .u64 (x : Nat)] rfl hnews hone hsm (by omega) (Nat.le_refl _)
      rw [hrun] at hrun2
      injection hrun2 with e1 e2
      subst e1
      exact .inr fun b hb => (ho2.lt b hb).1
    · by_cases hroom : n + 1 ≤ cap
      · have hr := run_append_room (P := Tryz.prog) w 32 ty 22 i0 sunder_u64s hi gg n cap cur hcur ⟨s, 0, none⟩ 1 c1 [.int .u64 (x : Nat)] (by rw [hi1]; rfl) hnews hone hroom (by rw [hi1]; simp; omega)
        rw [hrun] at hr
        injection hr with e1 e2
        subst e1
        exact .inl rfl
      · obtain ⟨v2, w2, hrun2, ho2, -⟩ := run_append_arg_grows (P := Tryz.prog) w 32 ty 22 i0 (.int .u64 0) 1 8 sunder_u64s hi hi0 hi1 hi2 rfl (by decide) ⟨gg, 0, none⟩ n cap (lU xs) hlen
          (fun j u hj => World.ownsRow.cells (h := ⟨hlen, .inr ⟨gg, cap, cur, rfl, hbg, hcur, hnc, hcm, hsz, htk⟩⟩) (g := gg) rfl j u hj) ⟨s, 0, none⟩ 1 c1 [.int .u64 (x : Nat)] rfl hnews (by omega) hsm (by omega)
        rw [hrun] at hrun2
        injection hrun2 with e1 e2
        subst e1
        exact .inr fun b hb => (ho2.lt b hb).1
  rw [hap] at ho
  have hsh := ho.2
  rcases hsh with ⟨rfl, -⟩ | ⟨gg, cap, cur, rfl, -⟩
  · exact ⟨_, _, _, w', hrun, ho, hg, hplace⟩
  · exact ⟨_, _, _, w', hrun, ho, hg, hplace⟩
/-- .. as a step of a region. -/
theorem step_app_own {ops : Array Oper} {o : Oper} {a : Act} {w : World} {K : Act → World → Prop} {Q : Exit → Act → World → Prop} {E : Prop} {base n sb x c1 : Nat} {v : Value} {xs : List Nat}
    (hg : o.guard = none) (s y : Operand) (hop : o.op = Op.call { callee := Callee.builtin Builtin.append, args := #[s, y], argTypes := #[32, 32] })
    (hs : a.eval s = v) (hy : a.eval y = .slice (some ⟨sb, 0, none⟩) 1 c1) (hown : w.ownsRow base 22 1 v n (lU xs)) (hx : w.cell? ⟨sb, 0, none⟩ = some (.int .u64 (x : Nat))) (hn : n ≤ 1000000) (hb : base ≤ w.heap.size)
    (hK : ∀ A' n' c' w', w'.ownsRow base 22 1 (.slice A' n' c') (n + 1) (lU (xs ++ [x])) → w.grownBy w' v.ownBlock → ((Value.slice A' n' c').ownBlock = v.ownBlock ∨ ∀ b, (Value.slice A' n' c').ownBlock = some b → w.heap.size ≤ b) → K (a.put o.dst (.slice A' n' c')) w') :
    if Region.wanted o (yielded ops a.tmps) = true then Oper.wp Tryz.prog o a w K Q else E := by
  have hw : Region.wanted o (yielded ops a.tmps) = true := by simp [Region.wanted, hg]
  rw [if_pos hw]
  obtain ⟨A', n', c', w', hrun, r1, r2, r3⟩ := app_own (c1 := c1) o.type hown hx hn hb
  unfold Oper.wp
  simp [execOp, hop, resolve, invoke, builtin, hs, hy, hrun, Result.andThen]
  exact hK A' n' c' w' r1 r2 r3
section
variable {w0 w w' : World} {base g rb bx mb n c X p : Nat} {id wd : Int} {B : Option Addr} {E : Nat → Array Value → TypeId → Prop} {Ov : Value} {O : List Nat}
/-- Behind an append to the row: all else stands. -/
theorem StV.app {A' : Option Addr} {n' c' y : Nat} (G : Geo w0 base g rb bx mb) (h : StV w0 base g rb bx mb n c id wd B E Ov X O p w) (hb0 : w0.heap.size ≤ base)
    (ho : w'.ownsRow base 22 1 (.slice A' n' c') (O.length + 1) (lU (O ++ [y]))) (hg : w.grownBy w' Ov.ownBlock) (hp : (Value.slice A' n' c').ownBlock = Ov.ownBlock ∨ ∀ b, (Value.slice A' n' c').ownBlock = some b → w.heap.size ≤ b)
    (hr : pBlk rb #[(.pointer (some ⟨g, 0, none⟩)), .int .i64 wd, .slice B n c, .int .i64 (p : Nat), Ov] 141 w') :
    StV w0 base g rb bx mb n c id wd B E (.slice A' n' c') X (O ++ [y]) p (w'.setCell ⟨rb, 4, none⟩ (.slice A' n' c')) := by
  have hne : ∀ k, k < base → k < w.heap.size → w'.heap[k]? = w.heap[k]? := fun k hk hkw => hg.block k hkw (fun e => by
    have := (h.row.lt k e.symm).1
    omega)
  have hB1 : Below w0.heap.size w0 w' := by
    refine ⟨hg.os.trans h.below.os, hg.tape.trans h.below.tape, hg.output.trans h.below.output, Nat.le_trans h.below.size hg.size, fun k hk => ?_⟩
    rw [hne k (by omega) (Nat.lt_of_lt_of_le hk h.below.size)]
    exact h.below.block k hk
  have hms : Mut rb w' (w'.setCell ⟨rb, 4, none⟩ (.slice A' n' c')) := by
    refine ⟨rfl, rfl, rfl, by simp [World.setCell], fun k hk hg => Below.heap_setCell _ _ _ _ hg, fun a x ha hc => ?_⟩
    by_cases hp' : (⟨rb, 4, none⟩ : Addr) = a
    · subst hp'
      exfalso
      rw [hr.cell 4 _ rfl] at hc
      injection hc with hc
      obtain ⟨-, hcase⟩ := h.row
      rcases hcase with ⟨e, -⟩ | ⟨gg, cap, cur, e, -⟩
      · rw [e] at hc; cases hc
      · rw [e] at hc; cases hc
    · rw [World.cell?_setCell_other _ _ _ _ hp']
      exact hc
  obtain ⟨A9, n9, c9, q1, q2, q3⟩ := h.qu
  have hq1 : pBlk g #[.int .i64 (fK id), .int .i64 (fW id), .int .i64 (fM id), .int .i64 (fB id), .int .u64 (fT id), .int .u64 (fI id), .int .u64 (fN id), .int .i64 id, .slice A9 n9 c9] 135 w' := by
    have := hne g G.g1 q1.lt
    unfold pBlk at q1 ⊢
    rw [this]; exact q1
  have hq2 : IsT w' (.slice A9 n9 c9) 16 X := by
    rcases q3 with e0 | ⟨b, off, e, hF⟩
    · obtain ⟨A1, c1, zs, e1, r1, r2⟩ := q2
      injection e1 with e1 e2 e3
      have : zs = [] := List.eq_nil_of_length_eq_zero (by omega)
      subst this
      refine ⟨A1, c1, [], by rw [e1, e2, e3], ⟨.inl rfl, fun _ _ _ j hj => by simp at hj⟩, r2⟩
    · obtain ⟨A1, c1, zs, e1, r1, r2⟩ := q2
      injection e1 with e1 e2 e3
      refine ⟨A1, c1, zs, by rw [e1, e2, e3], ⟨?_, fun b' off' e' j hj => ?_⟩, r2⟩
      · rcases r1.place with h1 | ⟨b1, o1, f1, h1⟩
        · exact .inl h1
        · exact .inr ⟨b1, o1, f1, Nat.lt_of_lt_of_le h1 hg.size⟩
      · have hc := r1.cells b' off' e' j hj
        have hbb : b' = b := by
          rw [e1, e'] at e
          injection e with e
          injection e
        subst hbb
        have hlt : b' < w.heap.size := cell_lt hc
        rw [World.cell?_of_block (hg.block b' hlt (fun e9 => hF e9.symm))]
        exact hc
  have hq3 : Off (fun b => (Value.slice A' n' c').ownBlock = some b) A9 n9 := by
    rcases q3 with e0 | ⟨b, off, e, hF⟩
    · exact .inl e0
    · by_cases h0 : n9 = 0
      · exact .inl h0
      refine .inr ⟨b, off, e, fun hb => ?_⟩
      rcases hp with hp | hp
      · rw [hp] at hb; exact hF hb
      · have h1 := hp b hb
        obtain ⟨A1, c1, zs, e1, r1, -⟩ := q2
        injection e1 with e1 e2 e3
        have hc := r1.cells b off (by rw [← e1]; exact e) 0 (by omega)
        have := cell_lt hc
        simp at this
        omega
  have hbx : pBlk bx #[(.pointer (some ⟨rb, 0, none⟩))] 139 w' := by
    have hb := h.box
    have := hne bx G.b1 hb.lt
    unfold pBlk at hb ⊢
    rw [this]; exact hb
  have hmp := h.map.same (hne mb G.m1 h.map.lt)
  have hq : QuF (fun b => (Value.slice A' n' c').ownBlock = some b) g id X w' := ⟨A9, n9, c9, hq1, hq2, hq3⟩
  have hrow : (w'.setCell ⟨rb, 4, none⟩ (.slice A' n' c')).ownsRow base 22 1 (.slice A' n' c') (O ++ [y]).length (lU (O ++ [y])) := by
    rw [show (O ++ [y]).length = O.length + 1 by simp]
    refine ho.kept (grown_mut hms) ?_
    cases hO : (Value.slice A' n' c').ownBlock with
    | none => exact .inl rfl
    | some k =>
      refine .inr fun e => ?_
      injection e with e
      have := (ho.lt k hO).1
      have := G.r1
      omega
  have hext : ∀ k cs t, E k cs t → pBlk k cs t (w'.setCell ⟨rb, 4, none⟩ (.slice A' n' c')) ∧ k ≠ g ∧ k ≠ rb ∧ (Value.slice A' n' c').ownBlock ≠ some k := fun k cs t e => by
    obtain ⟨x1, x2, x3, x4⟩ := h.ext k cs t e
    have hlt := x1.lt
    have hkk := hg.block k hlt (Ne.symm x4)
    refine ⟨?_, x2, x3, fun e9 => ?_⟩
    · have : pBlk k cs t w' := by unfold pBlk at x1 ⊢; rw [hkk]; exact x1
      exact this.mut hms x3
    · rcases hp with hp | hp
      · rw [hp] at e9; exact x4 e9
      · have := hp k e9; omega
  exact ⟨hB1.trans (hms.below hB1.size G.r0), Nat.le_trans h.bs (Nat.le_trans hg.size hms.size), hr.setX 4 _, hrow, hq.mut hms G.gr, hbx.mut hms (Ne.symm G.rx), hmp.same (hms.block _ hmp.lt (Ne.symm G.rm)), hext⟩
theorem keepO (hS : (bx < (w).heap.size ∧ rb < (w).heap.size ∧ (w).cell? ⟨bx, 0, none⟩ = some (.pointer (some ⟨rb, 0, none⟩)) ∧ (w).cell? ⟨rb, 0, none⟩ = some (.pointer (some ⟨g, 0, none⟩)))) (hb : Below w.heap.size w w') : (bx < (w').heap.size ∧ rb < (w').heap.size ∧ (w').cell? ⟨bx, 0, none⟩ = some (.pointer (some ⟨rb, 0, none⟩)) ∧ (w').cell? ⟨rb, 0, none⟩ = some (.pointer (some ⟨g, 0, none⟩))) := by
  obtain ⟨h0, h1, h2, h3⟩ := hS
  exact ⟨Nat.lt_of_lt_of_le h0 hb.size, Nat.lt_of_lt_of_le h1 hb.size, (hb.cell (p := ⟨bx, 0, none⟩) h0).trans h2, (hb.cell (p := ⟨rb, 0, none⟩) h1).trans h3⟩
end
end Go.Proofs.YtobokaafmcfeaaaGreatDoor
