/- Script: a step, walked. Conditions: the variables that values read. -/
import Derived.Test.YtobokaafmcfeaaaGreatDoorSk36
import Derived.Test.YtobokaafmcfeaaaGreatDoorSk37
import Derived.Test.YtobokaafmcfeaaaGreatDoorSk32
namespace Go.Proofs.YtobokaafmcfeaaaGreatDoor
open Go.RowKit Go.Cal
/-- A step's three boxes beside. -/
def E3 (E : Nat → Array Value → TypeId → Prop) (s rb p : Nat) : Nat → Array Value → TypeId → Prop := fun k cs t =>
  E k cs t ∨ (k = s ∧ cs = #[(.pointer (some ⟨rb, 0, none⟩))] ∧ t = 139) ∨ (k = s + 1 ∧ cs = #[.int .i64 0] ∧ t = 24) ∨ (k = s + 2 ∧ cs = #[.int .i64 (p : Nat)] ∧ t = 3)
theorem under_byteQ : Tryz.prog.underlying 5 = some (.int .u8) := by kernel_rfl
theorem zero_funcQ (w : World) : (zeroValue 1).run Tryz.prog w = .ok .nilFunc w := by kernel_rfl
section
variable {w0 w w' : World} {base g rb bx mb n c X p p' s : Nat} {id wd : Int} {B : Option Addr} {E : Nat → Array Value → TypeId → Prop} {Ov : Value} {O : List Nat} {l r : List UInt8}
theorem step_start (G : Geo w0 base g rb bx mb) (h : StV w0 base g rb bx mb n c id wd B E Ov X O p w) (hs : w.heap.size = s) : StV w0 base g rb bx mb n c id wd B (E3 E s rb p) Ov X O p (((w.alloc (.cells #[(.pointer (some ⟨rb, 0, none⟩))] 139)).alloc (.cells #[.int .i64 0] 24)).alloc (.cells #[.int .i64 (p : Nat)] 3)) := by
  subst hs
  have b1 := (Below.refl w.heap.size w).alloc (Nat.le_refl _) (.cells #[(.pointer (some ⟨rb, 0, none⟩))] 139)
  have b2 := b1.alloc (by simp) (.cells #[.int .i64 0] 24)
  have b3 := b2.alloc (by simp; omega) (.cells #[.int .i64 (p : Nat)] 3)
  have h3 := h.go b3
  have p1 := pBlk_made w #[(.pointer (some ⟨rb, 0, none⟩))] 139
  have p2 := pBlk_madeR (w.alloc (.cells #[(.pointer (some ⟨rb, 0, none⟩))] 139)) #[.int .i64 0] 24 (w.heap.size + 1) (by simp)
  have p3 := pBlk_madeR ((w.alloc (.cells #[(.pointer (some ⟨rb, 0, none⟩))] 139)).alloc (.cells #[.int .i64 0] 24)) #[.int .i64 (p : Nat)] 3 (w.heap.size + 2) (by simp)
  have hb := h.bs
  have hob := fun k (e : Ov.ownBlock = some k) => h.ob k e
  have g1 := G.g1
  have r1 := G.r1
  refine h3.more fun k cs t hk => ?_
  rcases hk with hk | ⟨rfl, rfl, rfl⟩ | ⟨rfl, rfl, rfl⟩ | ⟨rfl, rfl, rfl⟩
  · exact h3.ext k cs t hk
  · refine ⟨pBlk_st _ _ _ _ _ (pBlk_st _ _ _ _ _ p1 ((Below.refl _ _).alloc (Nat.le_refl _) _)) ((Below.refl _ _).alloc (Nat.le_refl _) _), by omega, by omega, fun e => ?_⟩
    have := hob _ e; omega
  · refine ⟨pBlk_st _ _ _ _ _ p2 ((Below.refl _ _).alloc (Nat.le_refl _) _), by omega, by omega, fun e => ?_⟩
    have := hob _ e; omega
  · refine ⟨p3, by omega, by omega, fun e => ?_⟩
    have := hob _ e; omega
/-- The step is done: its word is written. -/
theorem step_done (G : Geo w0 base g rb bx mb) (hb : base ≤ s) (hE : ∀ k cs t, E k cs t → k < s) (h : StV w0 base g rb bx mb n c id wd B (E3 E s rb p) Ov X O p' w) : StV w0 base g rb bx mb n c id wd B E Ov X O p' (w.setCell ⟨s + 1, 0, none⟩ (.int .i64 0)) ∧ (w.setCell ⟨s + 1, 0, none⟩ (.int .i64 0)).cell? ⟨s + 1, 0, none⟩ = some (.int .i64 0) := by
  obtain ⟨pe, e1, e2, e3⟩ := h.ext (s + 1) #[.int .i64 0] 24 (.inr (.inr (.inl ⟨rfl, rfl, rfl⟩)))
  have hm := Mut.set (i := 0) pe (.int .i64 0) (.int .i64 0) rfl (by simp)
  have h1 : StV w0 base g rb bx mb n c id wd B E Ov X O p' w := h.more fun k cs t hk => h.ext k cs t (.inl hk)
  exact ⟨h1.oth G (by omega) e3 (fun k cs t hk => by have := hE k cs t hk; omega) hm, (pe.setX 0 (.int .i64 0)).cell 0 _ rfl⟩
/-- The step was thrown out of: the place is as it was. -/
theorem step_thrown {q : Nat} {w10 w8 : World} (G : Geo w0 base g rb bx mb) (hb : base ≤ s) (hE : ∀ k cs t, E k cs t → k < s) (h : StV w0 base g rb bx mb n c id wd B (E3 E s rb p) Ov X O q w) (hr : pBlk rb #[(.pointer (some ⟨g, 0, none⟩)), .int .i64 wd, .slice B n c, .int .i64 (p : Nat), Ov] 141 w8) (hm1 : Mut rb w w10) (hm2 : Mut (s + 1) w10 w8) :
    StV w0 base g rb bx mb n c id wd B E Ov X O p w8 := by
  obtain ⟨pe, e1, e2, e3⟩ := h.ext (s + 1) #[.int .i64 0] 24 (.inr (.inr (.inl ⟨rfl, rfl, rfl⟩)))
  have hr1 := blk_back hr hm2 (Nat.lt_of_lt_of_le h.run.lt hm1.size) (Ne.symm e2)
  have h1 : StV w0 base g rb bx mb n c id wd B E Ov X O q w := h.more fun k cs t hk => h.ext k cs t (.inl hk)
  exact (h1.at G hr1 hm1).oth G (by omega) e3 (fun k cs t hk => by have := hE k cs t hk; omega) hm2
theorem step_err {id : Int} {X : Nat} {O : List Nat} {l : List UInt8} (h : (stepP id X O l).err ≠ 0) : (stepP id X O l).used = 0 ∧ (stepP id X O l).X = X ∧ (stepP id X O l).O = O := by
  cases l with
  | nil => exact ⟨rfl, rfl, rfl⟩
  | cons c r =>
    revert h
    rw [stepP]
    split
    · intro h; exact absurd rfl h
    split
    · split
      · intro _; exact ⟨rfl, rfl, rfl⟩
      · intro h; exact absurd rfl h
    split
    · intro h; exact absurd rfl h
    split
    · intro h; exact absurd rfl h
    split
    · cases r with
      | nil => intro _; exact ⟨rfl, rfl, rfl⟩
      | cons m s =>
        rw [ldS]
        split
        · intro _; exact ⟨rfl, rfl, rfl⟩
        split
        · intro h; exact absurd rfl h
        · intro _; exact ⟨rfl, rfl, rfl⟩
    · intro _; exact ⟨rfl, rfl, rfl⟩
set_option maxRecDepth 100000 in
set_option maxHeartbeats 2000000 in
theorem step_bad (G : Geo w0 base g rb bx mb) (Y : Byt w0 B n c l) (hp : p < n) {ch : UInt8} (hd : l.drop p = ch :: r) (h6 : 6 ≤ ch.toNat) (h : StV w0 base g rb bx mb n c id wd B E Ov X O p w) :
    Calls Tryz.prog 99 #[(.pointer (some ⟨rb, 0, none⟩)), .map (some mb)] w fun e w' => e = .returned (.int .i64 ((stepP id X O (l.drop p)).err : Nat)) ∧ ∃ Ov', StV w0 base g rb bx mb n c id wd B E Ov' (stepP id X O (l.drop p)).X (stepP id X O (l.drop p)).O (p + (stepP id X O (l.drop p)).used) w' := by
  have hlen : 0 < (l.drop p).length := by rw [List.length_drop, Y.len]; omega
  have hmf : ∀ (fn : Fn) (first cap : Array Value) (w : World), (Instr.makeFunc fn first cap).run Tryz.prog w = .ok (.func fn first cap) w := fun _ _ _ _ => rfl
  have hd1 : (l.drop p).take 1 = [ch] := by rw [hd]; rfl
  have hd2 : l.drop (p + 1) = r := by rw [← List.drop_drop, hd]; rfl
  have hEs : Hid (∀ k cs t, E k cs t → k < w.heap.size) := fun k cs t e => (h.ext k cs t e).1.lt
  have hbs := h.bs
  have h3 := step_start G h rfl
  have ht := Lib.hid (take_st G Y h3 1 (by omega) (by omega))
  rw [hd1] at ht
  have c3 := h.run.cell 3 _ rfl
  have hrl := h.run.lt
  have hRe : Hid ((stepP id X O (ch :: r)).err ≠ 0 → (stepP id X O (ch :: r)).used = 0 ∧ (stepP id X O (ch :: r)).X = X ∧ (stepP id X O (ch :: r)).O = O) := step_err
  rw [hd]
  have hRv : stepP id X O (ch :: r) = ⟨1, 0, X, O⟩ := by
    have g : ∀ k : UInt8, k.toNat < 6 → ch ≠ k := fun k hk e => by rw [e] at h6; omega
    rw [stepP, if_neg (g 0 (by decide)), if_neg (by rintro (e | e); exact g 1 (by decide) e; exact g 2 (by decide) e), if_neg (g 3 (by decide)), if_neg (g 4 (by decide)), if_neg (g 5 (by decide))]
  obtain ⟨R, hR⟩ : ∃ R, stepP id X O (ch :: r) = R := ⟨_, rfl⟩
  rw [hR] at hRv hRe ⊢
  have hen : R.err ≠ 0 := by rw [hRv]; exact Nat.one_ne_zero
  have her : R.err = 1 := by rw [hRv]
  replace hRv := Lib.hid hRv
  replace her := Lib.hid her
  clear hR
  go_enter_defers Tryz.func99, Tryz.ntmps99
  go_wp2_with fail
  refine ht.out.mono ?_
  rintro e w1 ⟨B1, c1, rfl, hr1, hc1, hm1, h5⟩
  obtain ⟨s, hs⟩ : ∃ s, w.heap.size = s := ⟨_, rfl⟩
  rw [hs] at h5 hEs hbs ⊢
  rcases hr1.place with h0 | ⟨b, off, hB1, hbs1⟩
  · cases h0
  subst hB1
  have hcell := hr1.cells b off rfl 0 (by simp)
  simp only [List.getD_cons_zero, Nat.add_zero] at hcell
  have hlk := h5.map.look under_byteQ under_mapS (zero_funcQ w1) ch.toNat ch.toNat_lt
  clear hr1 ht c3 hrl h3 hs
  rw [if_neg (by omega), decide_eq_false (by omega)] at hlk
  obtain ⟨z, hz⟩ : ∃ z : Int, ((ch.toNat : Nat) : Int) = z := ⟨_, rfl⟩
  rw [hz] at hcell hlk
  clear hz h6 h hd hd1 hd2 Y
  go_wp2_with fail
  refine (rmust_no 1 _).mono ?_
  rintro e w2 ⟨rfl, rfl⟩
  have h2 := h5
  have her2 : (1 : Int) = (R.err : Nat) := by rw [her.out]; rfl
  rw [her2]
  all_goals
    obtain ⟨pa, -⟩ := h2.ext (s + 2) #[.int .i64 (p : Nat)] 3 (.inr (.inr (.inr ⟨rfl, rfl, rfl⟩)))
    obtain ⟨pb, -⟩ := h2.ext s #[(.pointer (some ⟨rb, 0, none⟩))] 139 (.inr (.inl ⟨rfl, rfl, rfl⟩))
    obtain ⟨pd, -, pdr, -⟩ := h2.ext (s + 1) #[.int .i64 0] 24 (.inr (.inr (.inl ⟨rfl, rfl, rfl⟩)))
    have hcat := Lib.hid (rcatch_thrown (s + 2) s (s + 1) rb (R.err : Nat) (p : Nat) [] _ pa pb pd h2.run pdr)
    replace h2 := Lib.hid h2
    clear pa pb pd pdr
    go_wp2
    refine leaves_cons (f := 192) (args := #[.pointer (some ⟨s + 2, 0, none⟩), .pointer (some ⟨s, 0, none⟩), .pointer (some ⟨s + 1, 0, none⟩)]) (by simp) (by simp [go_sem]) ?_
    refine hcat.out.mono ?_
    rintro e1 u8 w8 ⟨rfl, rfl, pd, pr, w10, hm1, hm2⟩
    have y0 := pd.cell 0 _ rfl
    have hfin := step_thrown G hbs hEs.out h2.out pr hm1 hm2
    clear pr hm1 hm2 pd
    simp [Leaves, settle, results, Tryz.results99, go_sem, y0]
    obtain ⟨z1, z2, z3⟩ := hRe.out hen
    exact ⟨Ov, by rw [z1, z2, z3]; exact hfin⟩
set_option maxRecDepth 100000 in
set_option maxHeartbeats 2000000 in
theorem stepq_clear (G : Geo w0 base g rb bx mb) (Y : Byt w0 B n c l) (hA : w0.heap.size ≤ base ∧ VaW w0 ∧ 1 ≤ id ∧ id ≤ 4 ∧ wd = fW id ∧ X < 2 ^ quS id ∧ O.length ≤ 1000) (hp : p < n) {ch : UInt8} (hd : l.drop p = ch :: r) (hch : 0 = ch) (h : StV w0 base g rb bx mb n c id wd B E Ov X O p w) :
    Calls Tryz.prog 99 #[(.pointer (some ⟨rb, 0, none⟩)), .map (some mb)] w fun e w' => e = .returned (.int .i64 ((stepP id X O (l.drop p)).err : Nat)) ∧ ∃ Ov', StV w0 base g rb bx mb n c id wd B E Ov' (stepP id X O (l.drop p)).X (stepP id X O (l.drop p)).O (p + (stepP id X O (l.drop p)).used) w' := by
  have hlen : 0 < (l.drop p).length := by rw [List.length_drop, Y.len]; omega
  have hmf : ∀ (fn : Fn) (first cap : Array Value) (w : World), (Instr.makeFunc fn first cap).run Tryz.prog w = .ok (.func fn first cap) w := fun _ _ _ _ => rfl
  have hd1 : (l.drop p).take 1 = [ch] := by rw [hd]; rfl
  have hd2 : l.drop (p + 1) = r := by rw [← List.drop_drop, hd]; rfl
  have hEs : Hid (∀ k cs t, E k cs t → k < w.heap.size) := fun k cs t e => (h.ext k cs t e).1.lt
  have hbs := h.bs
  have h3 := step_start G h rfl
  have ht := Lib.hid (take_st G Y h3 1 (by omega) (by omega))
  rw [hd1] at ht
  have c3 := h.run.cell 3 _ rfl
  have hrl := h.run.lt
  have hRe : Hid ((stepP id X O (ch :: r)).err ≠ 0 → (stepP id X O (ch :: r)).used = 0 ∧ (stepP id X O (ch :: r)).X = X ∧ (stepP id X O (ch :: r)).O = O) := step_err
  rw [hd]
  have hk : ch.toNat = 0 := by rw [← hch]; rfl
  obtain ⟨R, hR⟩ : ∃ R, stepP id X O (ch :: r) = R := ⟨_, rfl⟩
  have hRK : stepP id X O (0 :: r) = R := by rw [hch]; exact hR
  rw [hR] at hRe ⊢
  clear hR
  replace hA := Lib.hid hA
  replace hRK := Lib.hid hRK
  go_enter_defers Tryz.func99, Tryz.ntmps99
  go_wp2_with fail
  refine ht.out.mono ?_
  rintro e w1 ⟨B1, c1, rfl, hr1, hc1, hm1, h5⟩
  obtain ⟨s, hs⟩ : ∃ s, w.heap.size = s := ⟨_, rfl⟩
  rw [hs] at h5 hEs hbs ⊢
  rcases hr1.place with h0 | ⟨b, off, hB1, hbs1⟩
  · cases h0
  subst hB1
  have hcell := hr1.cells b off rfl 0 (by simp)
  simp only [List.getD_cons_zero, Nat.add_zero] at hcell
  have hlk := h5.map.look under_byteQ under_mapS (zero_funcQ w1) ch.toNat ch.toNat_lt
  clear hr1 ht c3 hrl h3 hs
  have hcon : Hid (Calls Tryz.prog 32 #[(.pointer (some ⟨g, 0, none⟩))] w1 (DoneP w0 base g rb bx mb n c id wd B (E3 E s rb p) Ov X O R p)) := by
    obtain ⟨hb0, hVa, h1, h4, hwd, hX, hO⟩ := hA.out
    have hc := one_clear (r := r) G h5
    rw [hRK.out] at hc
    exact hc
  obtain ⟨z, hz⟩ : ∃ z : Int, ((ch.toNat : Nat) : Int) = z := ⟨_, rfl⟩
  rw [hz] at hcell hlk
  rw [hk] at hlk
  replace hlk : (Instr.lookup 142 (.map (some mb)) (.int .u8 z) true).run Tryz.prog w1 = .ok (.tuple #[.func (.func 32) #[(.pointer (some ⟨g, 0, none⟩))] #[], .bool true]) w1 := hlk
  clear hz hk h hd hd1 hd2 Y hA hRK hch h5
  go_wp2_with fail
  refine (rmust_yes 1 _).mono ?_
  rintro e w2 ⟨rfl, rfl⟩
  go_wp2_with fail
  refine hcon.out.mono ?_
  rintro e w2 (⟨he0, rfl, Ov', h2⟩ | ⟨hen, rfl, q, h2⟩)
  · skip
    obtain ⟨pd, -⟩ := h2.ext (s + 1) #[.int .i64 0] 24 (.inr (.inr (.inl ⟨rfl, rfl, rfl⟩)))
    have d0 := pd.cell 0 _ rfl
    have df := pd.free 0
    have dl := pd.lt
    obtain ⟨hfin, y0⟩ := step_done G hbs hEs.out h2
    replace hfin := Lib.hid hfin
    clear h2 pd
    go_wp2
    show Leaves _ _ _ _ _ .returning _
    refine leaves_cons (f := 192) (args := #[.pointer (some ⟨s + 2, 0, none⟩), .pointer (some ⟨s, 0, none⟩), .pointer (some ⟨s + 1, 0, none⟩)]) (by simp) (by simp [go_sem]) ?_
    refine (rcatch_idle (s + 2) s (s + 1) _).mono ?_
    rintro e1 u8 w8 ⟨rfl, rfl, rfl⟩
    simp [Leaves, settle, results, Tryz.results99, go_sem, y0, he0]
    exact ⟨Ov', hfin.out⟩
  · skip
    obtain ⟨pa, -⟩ := h2.ext (s + 2) #[.int .i64 (p : Nat)] 3 (.inr (.inr (.inr ⟨rfl, rfl, rfl⟩)))
    obtain ⟨pb, -⟩ := h2.ext s #[(.pointer (some ⟨rb, 0, none⟩))] 139 (.inr (.inl ⟨rfl, rfl, rfl⟩))
    obtain ⟨pd, -, pdr, -⟩ := h2.ext (s + 1) #[.int .i64 0] 24 (.inr (.inr (.inl ⟨rfl, rfl, rfl⟩)))
    have hcat := Lib.hid (rcatch_thrown (s + 2) s (s + 1) rb (R.err : Nat) (p : Nat) [] _ pa pb pd h2.run pdr)
    replace h2 := Lib.hid h2
    clear pa pb pd pdr
    go_wp2
    refine leaves_cons (f := 192) (args := #[.pointer (some ⟨s + 2, 0, none⟩), .pointer (some ⟨s, 0, none⟩), .pointer (some ⟨s + 1, 0, none⟩)]) (by simp) (by simp [go_sem]) ?_
    refine hcat.out.mono ?_
    rintro e1 u8 w8 ⟨rfl, rfl, pd, pr, w10, hm1, hm2⟩
    have y0 := pd.cell 0 _ rfl
    have hfin := step_thrown G hbs hEs.out h2.out pr hm1 hm2
    clear pr hm1 hm2 pd
    simp [Leaves, settle, results, Tryz.results99, go_sem, y0]
    obtain ⟨z1, z2, z3⟩ := hRe.out hen
    exact ⟨Ov, by rw [z1, z2, z3]; exact hfin⟩
set_option maxRecDepth 100000 in
set_option maxHeartbeats 2000000 in
theorem stepq_add (G : Geo w0 base g rb bx mb) (Y : Byt w0 B n c l) (hA : w0.heap.size ≤ base ∧ VaW w0 ∧ 1 ≤ id ∧ id ≤ 4 ∧ wd = fW id ∧ X < 2 ^ quS id ∧ O.length ≤ 1000) (hp : p < n) {ch : UInt8} (hd : l.drop p = ch :: r) (hch : 1 = ch) (h : StV w0 base g rb bx mb n c id wd B E Ov X O p w) :
    Calls Tryz.prog 99 #[(.pointer (some ⟨rb, 0, none⟩)), .map (some mb)] w fun e w' => e = .returned (.int .i64 ((stepP id X O (l.drop p)).err : Nat)) ∧ ∃ Ov', StV w0 base g rb bx mb n c id wd B E Ov' (stepP id X O (l.drop p)).X (stepP id X O (l.drop p)).O (p + (stepP id X O (l.drop p)).used) w' := by
  have hlen : 0 < (l.drop p).length := by rw [List.length_drop, Y.len]; omega
  have hmf : ∀ (fn : Fn) (first cap : Array Value) (w : World), (Instr.makeFunc fn first cap).run Tryz.prog w = .ok (.func fn first cap) w := fun _ _ _ _ => rfl
  have hd1 : (l.drop p).take 1 = [ch] := by rw [hd]; rfl
  have hd2 : l.drop (p + 1) = r := by rw [← List.drop_drop, hd]; rfl
  have hEs : Hid (∀ k cs t, E k cs t → k < w.heap.size) := fun k cs t e => (h.ext k cs t e).1.lt
  have hbs := h.bs
  have h3 := step_start G h rfl
  have ht := Lib.hid (take_st G Y h3 1 (by omega) (by omega))
  rw [hd1] at ht
  have c3 := h.run.cell 3 _ rfl
  have hrl := h.run.lt
  have hRe : Hid ((stepP id X O (ch :: r)).err ≠ 0 → (stepP id X O (ch :: r)).used = 0 ∧ (stepP id X O (ch :: r)).X = X ∧ (stepP id X O (ch :: r)).O = O) := step_err
  rw [hd]
  have hk : ch.toNat = 1 := by rw [← hch]; rfl
  obtain ⟨R, hR⟩ : ∃ R, stepP id X O (ch :: r) = R := ⟨_, rfl⟩
  have hRK : stepP id X O (1 :: r) = R := by rw [hch]; exact hR
  rw [hR] at hRe ⊢
  clear hR
  replace hA := Lib.hid hA
  replace hRK := Lib.hid hRK
  go_enter_defers Tryz.func99, Tryz.ntmps99
  go_wp2_with fail
  refine ht.out.mono ?_
  rintro e w1 ⟨B1, c1, rfl, hr1, hc1, hm1, h5⟩
  obtain ⟨s, hs⟩ : ∃ s, w.heap.size = s := ⟨_, rfl⟩
  rw [hs] at h5 hEs hbs ⊢
  rcases hr1.place with h0 | ⟨b, off, hB1, hbs1⟩
  · cases h0
  subst hB1
  have hcell := hr1.cells b off rfl 0 (by simp)
  simp only [List.getD_cons_zero, Nat.add_zero] at hcell
  have hlk := h5.map.look under_byteQ under_mapS (zero_funcQ w1) ch.toNat ch.toNat_lt
  clear hr1 ht c3 hrl h3 hs
  have hcon : Hid (Calls Tryz.prog 187 #[(.pointer (some ⟨bx, 0, none⟩))] w1 (DoneP w0 base g rb bx mb n c id wd B (E3 E s rb p) Ov X O R p)) := by
    obtain ⟨hb0, hVa, h1, h4, hwd, hX, hO⟩ := hA.out
    have hc := one_add G Y hVa h1 h4 hwd hX (by omega) hd2 h5
    rw [hRK.out] at hc
    exact hc
  obtain ⟨z, hz⟩ : ∃ z : Int, ((ch.toNat : Nat) : Int) = z := ⟨_, rfl⟩
  rw [hz] at hcell hlk
  rw [hk] at hlk
  replace hlk : (Instr.lookup 142 (.map (some mb)) (.int .u8 z) true).run Tryz.prog w1 = .ok (.tuple #[.func (.func 187) #[] #[(.pointer (some ⟨bx, 0, none⟩))], .bool true]) w1 := hlk
  clear hz hk h hd hd1 hd2 Y hA hRK hch h5
  go_wp2_with fail
  refine (rmust_yes 1 _).mono ?_
  rintro e w2 ⟨rfl, rfl⟩
  go_wp2_with fail
  refine hcon.out.mono ?_
  rintro e w2 (⟨he0, rfl, Ov', h2⟩ | ⟨hen, rfl, q, h2⟩)
  · skip
    obtain ⟨pd, -⟩ := h2.ext (s + 1) #[.int .i64 0] 24 (.inr (.inr (.inl ⟨rfl, rfl, rfl⟩)))
    have d0 := pd.cell 0 _ rfl
    have df := pd.free 0
    have dl := pd.lt
    obtain ⟨hfin, y0⟩ := step_done G hbs hEs.out h2
    replace hfin := Lib.hid hfin
    clear h2 pd
    go_wp2
    show Leaves _ _ _ _ _ .returning _
    refine leaves_cons (f := 192) (args := #[.pointer (some ⟨s + 2, 0, none⟩), .pointer (some ⟨s, 0, none⟩), .pointer (some ⟨s + 1, 0, none⟩)]) (by simp) (by simp [go_sem]) ?_
    refine (rcatch_idle (s + 2) s (s + 1) _).mono ?_
    rintro e1 u8 w8 ⟨rfl, rfl, rfl⟩
    simp [Leaves, settle, results, Tryz.results99, go_sem, y0, he0]
    exact ⟨Ov', hfin.out⟩
  · skip
    obtain ⟨pa, -⟩ := h2.ext (s + 2) #[.int .i64 (p : Nat)] 3 (.inr (.inr (.inr ⟨rfl, rfl, rfl⟩)))
    obtain ⟨pb, -⟩ := h2.ext s #[(.pointer (some ⟨rb, 0, none⟩))] 139 (.inr (.inl ⟨rfl, rfl, rfl⟩))
    obtain ⟨pd, -, pdr, -⟩ := h2.ext (s + 1) #[.int .i64 0] 24 (.inr (.inr (.inl ⟨rfl, rfl, rfl⟩)))
    have hcat := Lib.hid (rcatch_thrown (s + 2) s (s + 1) rb (R.err : Nat) (p : Nat) [] _ pa pb pd h2.run pdr)
    replace h2 := Lib.hid h2
    clear pa pb pd pdr
    go_wp2
    refine leaves_cons (f := 192) (args := #[.pointer (some ⟨s + 2, 0, none⟩), .pointer (some ⟨s, 0, none⟩), .pointer (some ⟨s + 1, 0, none⟩)]) (by simp) (by simp [go_sem]) ?_
    refine hcat.out.mono ?_
    rintro e1 u8 w8 ⟨rfl, rfl, pd, pr, w10, hm1, hm2⟩
    have y0 := pd.cell 0 _ rfl
    have hfin := step_thrown G hbs hEs.out h2.out pr hm1 hm2
    clear pr hm1 hm2 pd
    simp [Leaves, settle, results, Tryz.results99, go_sem, y0]
    obtain ⟨z1, z2, z3⟩ := hRe.out hen
    exact ⟨Ov, by rw [z1, z2, z3]; exact hfin⟩
set_option maxRecDepth 100000 in
set_option maxHeartbeats 2000000 in
theorem stepq_sub (G : Geo w0 base g rb bx mb) (Y : Byt w0 B n c l) (hA : w0.heap.size ≤ base ∧ VaW w0 ∧ 1 ≤ id ∧ id ≤ 4 ∧ wd = fW id ∧ X < 2 ^ quS id ∧ O.length ≤ 1000) (hp : p < n) {ch : UInt8} (hd : l.drop p = ch :: r) (hch : 2 = ch) (h : StV w0 base g rb bx mb n c id wd B E Ov X O p w) :
    Calls Tryz.prog 99 #[(.pointer (some ⟨rb, 0, none⟩)), .map (some mb)] w fun e w' => e = .returned (.int .i64 ((stepP id X O (l.drop p)).err : Nat)) ∧ ∃ Ov', StV w0 base g rb bx mb n c id wd B E Ov' (stepP id X O (l.drop p)).X (stepP id X O (l.drop p)).O (p + (stepP id X O (l.drop p)).used) w' := by
  have hlen : 0 < (l.drop p).length := by rw [List.length_drop, Y.len]; omega
  have hmf : ∀ (fn : Fn) (first cap : Array Value) (w : World), (Instr.makeFunc fn first cap).run Tryz.prog w = .ok (.func fn first cap) w := fun _ _ _ _ => rfl
  have hd1 : (l.drop p).take 1 = [ch] := by rw [hd]; rfl
  have hd2 : l.drop (p + 1) = r := by rw [← List.drop_drop, hd]; rfl
  have hEs : Hid (∀ k cs t, E k cs t → k < w.heap.size) := fun k cs t e => (h.ext k cs t e).1.lt
  have hbs := h.bs
  have h3 := step_start G h rfl
  have ht := Lib.hid (take_st G Y h3 1 (by omega) (by omega))
  rw [hd1] at ht
  have c3 := h.run.cell 3 _ rfl
  have hrl := h.run.lt
  have hRe : Hid ((stepP id X O (ch :: r)).err ≠ 0 → (stepP id X O (ch :: r)).used = 0 ∧ (stepP id X O (ch :: r)).X = X ∧ (stepP id X O (ch :: r)).O = O) := step_err
  rw [hd]
  have hk : ch.toNat = 2 := by rw [← hch]; rfl
  obtain ⟨R, hR⟩ : ∃ R, stepP id X O (ch :: r) = R := ⟨_, rfl⟩
  have hRK : stepP id X O (2 :: r) = R := by rw [hch]; exact hR
  rw [hR] at hRe ⊢
  clear hR
  replace hA := Lib.hid hA
  replace hRK := Lib.hid hRK
  go_enter_defers Tryz.func99, Tryz.ntmps99
  go_wp2_with fail
  refine ht.out.mono ?_
  rintro e w1 ⟨B1, c1, rfl, hr1, hc1, hm1, h5⟩
  obtain ⟨s, hs⟩ : ∃ s, w.heap.size = s := ⟨_, rfl⟩
  rw [hs] at h5 hEs hbs ⊢
  rcases hr1.place with h0 | ⟨b, off, hB1, hbs1⟩
  · cases h0
  subst hB1
  have hcell := hr1.cells b off rfl 0 (by simp)
  simp only [List.getD_cons_zero, Nat.add_zero] at hcell
  have hlk := h5.map.look under_byteQ under_mapS (zero_funcQ w1) ch.toNat ch.toNat_lt
  clear hr1 ht c3 hrl h3 hs
  have hcon : Hid (Calls Tryz.prog 189 #[(.pointer (some ⟨bx, 0, none⟩))] w1 (DoneP w0 base g rb bx mb n c id wd B (E3 E s rb p) Ov X O R p)) := by
    obtain ⟨hb0, hVa, h1, h4, hwd, hX, hO⟩ := hA.out
    have hc := one_sub G Y hVa h1 h4 hwd hX (by omega) hd2 h5
    rw [hRK.out] at hc
    exact hc
  obtain ⟨z, hz⟩ : ∃ z : Int, ((ch.toNat : Nat) : Int) = z := ⟨_, rfl⟩
  rw [hz] at hcell hlk
  rw [hk] at hlk
  replace hlk : (Instr.lookup 142 (.map (some mb)) (.int .u8 z) true).run Tryz.prog w1 = .ok (.tuple #[.func (.func 189) #[] #[(.pointer (some ⟨bx, 0, none⟩))], .bool true]) w1 := hlk
  clear hz hk h hd hd1 hd2 Y hA hRK hch h5
  go_wp2_with fail
  refine (rmust_yes 1 _).mono ?_
  rintro e w2 ⟨rfl, rfl⟩
  go_wp2_with fail
  refine hcon.out.mono ?_
  rintro e w2 (⟨he0, rfl, Ov', h2⟩ | ⟨hen, rfl, q, h2⟩)
  · skip
    obtain ⟨pd, -⟩ := h2.ext (s + 1) #[.int .i64 0] 24 (.inr (.inr (.inl ⟨rfl, rfl, rfl⟩)))
    have d0 := pd.cell 0 _ rfl
    have df := pd.free 0
    have dl := pd.lt
    obtain ⟨hfin, y0⟩ := step_done G hbs hEs.out h2
    replace hfin := Lib.hid hfin
    clear h2 pd
    go_wp2
    show Leaves _ _ _ _ _ .returning _
    refine leaves_cons (f := 192) (args := #[.pointer (some ⟨s + 2, 0, none⟩), .pointer (some ⟨s, 0, none⟩), .pointer (some ⟨s + 1, 0, none⟩)]) (by simp) (by simp [go_sem]) ?_
    refine (rcatch_idle (s + 2) s (s + 1) _).mono ?_
    rintro e1 u8 w8 ⟨rfl, rfl, rfl⟩
    simp [Leaves, settle, results, Tryz.results99, go_sem, y0, he0]
    exact ⟨Ov', hfin.out⟩
  · skip
    obtain ⟨pa, -⟩ := h2.ext (s + 2) #[.int .i64 (p : Nat)] 3 (.inr (.inr (.inr ⟨rfl, rfl, rfl⟩)))
    obtain ⟨pb, -⟩ := h2.ext s #[(.pointer (some ⟨rb, 0, none⟩))] 139 (.inr (.inl ⟨rfl, rfl, rfl⟩))
    obtain ⟨pd, -, pdr, -⟩ := h2.ext (s + 1) #[.int .i64 0] 24 (.inr (.inr (.inl ⟨rfl, rfl, rfl⟩)))
    have hcat := Lib.hid (rcatch_thrown (s + 2) s (s + 1) rb (R.err : Nat) (p : Nat) [] _ pa pb pd h2.run pdr)
    replace h2 := Lib.hid h2
    clear pa pb pd pdr
    go_wp2
    refine leaves_cons (f := 192) (args := #[.pointer (some ⟨s + 2, 0, none⟩), .pointer (some ⟨s, 0, none⟩), .pointer (some ⟨s + 1, 0, none⟩)]) (by simp) (by simp [go_sem]) ?_
    refine hcat.out.mono ?_
    rintro e1 u8 w8 ⟨rfl, rfl, pd, pr, w10, hm1, hm2⟩
    have y0 := pd.cell 0 _ rfl
    have hfin := step_thrown G hbs hEs.out h2.out pr hm1 hm2
    clear pr hm1 hm2 pd
    simp [Leaves, settle, results, Tryz.results99, go_sem, y0]
    obtain ⟨z1, z2, z3⟩ := hRe.out hen
    exact ⟨Ov, by rw [z1, z2, z3]; exact hfin⟩
set_option maxRecDepth 100000 in
set_option maxHeartbeats 2000000 in
theorem stepq_neg (G : Geo w0 base g rb bx mb) (Y : Byt w0 B n c l) (hA : w0.heap.size ≤ base ∧ VaW w0 ∧ 1 ≤ id ∧ id ≤ 4 ∧ wd = fW id ∧ X < 2 ^ quS id ∧ O.length ≤ 1000) (hp : p < n) {ch : UInt8} (hd : l.drop p = ch :: r) (hch : 3 = ch) (h : StV w0 base g rb bx mb n c id wd B E Ov X O p w) :
    Calls Tryz.prog 99 #[(.pointer (some ⟨rb, 0, none⟩)), .map (some mb)] w fun e w' => e = .returned (.int .i64 ((stepP id X O (l.drop p)).err : Nat)) ∧ ∃ Ov', StV w0 base g rb bx mb n c id wd B E Ov' (stepP id X O (l.drop p)).X (stepP id X O (l.drop p)).O (p + (stepP id X O (l.drop p)).used) w' := by
  have hlen : 0 < (l.drop p).length := by rw [List.length_drop, Y.len]; omega
  have hmf : ∀ (fn : Fn) (first cap : Array Value) (w : World), (Instr.makeFunc fn first cap).run Tryz.prog w = .ok (.func fn first cap) w := fun _ _ _ _ => rfl
  have hd1 : (l.drop p).take 1 = [ch] := by rw [hd]; rfl
  have hd2 : l.drop (p + 1) = r := by rw [← List.drop_drop, hd]; rfl
  have hEs : Hid (∀ k cs t, E k cs t → k < w.heap.size) := fun k cs t e => (h.ext k cs t e).1.lt
  have hbs := h.bs
  have h3 := step_start G h rfl
  have ht := Lib.hid (take_st G Y h3 1 (by omega) (by omega))
  rw [hd1] at ht
  have c3 := h.run.cell 3 _ rfl
  have hrl := h.run.lt
  have hRe : Hid ((stepP id X O (ch :: r)).err ≠ 0 → (stepP id X O (ch :: r)).used = 0 ∧ (stepP id X O (ch :: r)).X = X ∧ (stepP id X O (ch :: r)).O = O) := step_err
  rw [hd]
  have hk : ch.toNat = 3 := by rw [← hch]; rfl
  obtain ⟨R, hR⟩ : ∃ R, stepP id X O (ch :: r) = R := ⟨_, rfl⟩
  have hRK : stepP id X O (3 :: r) = R := by rw [hch]; exact hR
  rw [hR] at hRe ⊢
  clear hR
  replace hA := Lib.hid hA
  replace hRK := Lib.hid hRK
  go_enter_defers Tryz.func99, Tryz.ntmps99
  go_wp2_with fail
  refine ht.out.mono ?_
  rintro e w1 ⟨B1, c1, rfl, hr1, hc1, hm1, h5⟩
  obtain ⟨s, hs⟩ : ∃ s, w.heap.size = s := ⟨_, rfl⟩
  rw [hs] at h5 hEs hbs ⊢
  rcases hr1.place with h0 | ⟨b, off, hB1, hbs1⟩
  · cases h0
  subst hB1
  have hcell := hr1.cells b off rfl 0 (by simp)
  simp only [List.getD_cons_zero, Nat.add_zero] at hcell
  have hlk := h5.map.look under_byteQ under_mapS (zero_funcQ w1) ch.toNat ch.toNat_lt
  clear hr1 ht c3 hrl h3 hs
  have hcon : Hid (Calls Tryz.prog 35 #[(.pointer (some ⟨g, 0, none⟩))] w1 (DoneP w0 base g rb bx mb n c id wd B (E3 E s rb p) Ov X O R p)) := by
    obtain ⟨hb0, hVa, h1, h4, hwd, hX, hO⟩ := hA.out
    have hc := one_neg (r := r) G h1 h4 hX h5
    rw [hRK.out] at hc
    exact hc
  obtain ⟨z, hz⟩ : ∃ z : Int, ((ch.toNat : Nat) : Int) = z := ⟨_, rfl⟩
  rw [hz] at hcell hlk
  rw [hk] at hlk
  replace hlk : (Instr.lookup 142 (.map (some mb)) (.int .u8 z) true).run Tryz.prog w1 = .ok (.tuple #[.func (.func 35) #[(.pointer (some ⟨g, 0, none⟩))] #[], .bool true]) w1 := hlk
  clear hz hk h hd hd1 hd2 Y hA hRK hch h5
  go_wp2_with fail
  refine (rmust_yes 1 _).mono ?_
  rintro e w2 ⟨rfl, rfl⟩
  go_wp2_with fail
  refine hcon.out.mono ?_
  rintro e w2 (⟨he0, rfl, Ov', h2⟩ | ⟨hen, rfl, q, h2⟩)
  · skip
    obtain ⟨pd, -⟩ := h2.ext (s + 1) #[.int .i64 0] 24 (.inr (.inr (.inl ⟨rfl, rfl, rfl⟩)))
    have d0 := pd.cell 0 _ rfl
    have df := pd.free 0
    have dl := pd.lt
    obtain ⟨hfin, y0⟩ := step_done G hbs hEs.out h2
    replace hfin := Lib.hid hfin
    clear h2 pd
    go_wp2
    show Leaves _ _ _ _ _ .returning _
    refine leaves_cons (f := 192) (args := #[.pointer (some ⟨s + 2, 0, none⟩), .pointer (some ⟨s, 0, none⟩), .pointer (some ⟨s + 1, 0, none⟩)]) (by simp) (by simp [go_sem]) ?_
    refine (rcatch_idle (s + 2) s (s + 1) _).mono ?_
    rintro e1 u8 w8 ⟨rfl, rfl, rfl⟩
    simp [Leaves, settle, results, Tryz.results99, go_sem, y0, he0]
    exact ⟨Ov', hfin.out⟩
  · skip
    obtain ⟨pa, -⟩ := h2.ext (s + 2) #[.int .i64 (p : Nat)] 3 (.inr (.inr (.inr ⟨rfl, rfl, rfl⟩)))
    obtain ⟨pb, -⟩ := h2.ext s #[(.pointer (some ⟨rb, 0, none⟩))] 139 (.inr (.inl ⟨rfl, rfl, rfl⟩))
    obtain ⟨pd, -, pdr, -⟩ := h2.ext (s + 1) #[.int .i64 0] 24 (.inr (.inr (.inl ⟨rfl, rfl, rfl⟩)))
    have hcat := Lib.hid (rcatch_thrown (s + 2) s (s + 1) rb (R.err : Nat) (p : Nat) [] _ pa pb pd h2.run pdr)
    replace h2 := Lib.hid h2
    clear pa pb pd pdr
    go_wp2
    refine leaves_cons (f := 192) (args := #[.pointer (some ⟨s + 2, 0, none⟩), .pointer (some ⟨s, 0, none⟩), .pointer (some ⟨s + 1, 0, none⟩)]) (by simp) (by simp [go_sem]) ?_
    refine hcat.out.mono ?_
    rintro e1 u8 w8 ⟨rfl, rfl, pd, pr, w10, hm1, hm2⟩
    have y0 := pd.cell 0 _ rfl
    have hfin := step_thrown G hbs hEs.out h2.out pr hm1 hm2
    clear pr hm1 hm2 pd
    simp [Leaves, settle, results, Tryz.results99, go_sem, y0]
    obtain ⟨z1, z2, z3⟩ := hRe.out hen
    exact ⟨Ov, by rw [z1, z2, z3]; exact hfin⟩
set_option maxRecDepth 100000 in
set_option maxHeartbeats 2000000 in
theorem stepq_out (G : Geo w0 base g rb bx mb) (Y : Byt w0 B n c l) (hA : w0.heap.size ≤ base ∧ VaW w0 ∧ 1 ≤ id ∧ id ≤ 4 ∧ wd = fW id ∧ X < 2 ^ quS id ∧ O.length ≤ 1000) (hp : p < n) {ch : UInt8} (hd : l.drop p = ch :: r) (hch : 4 = ch) (h : StV w0 base g rb bx mb n c id wd B E Ov X O p w) :
    Calls Tryz.prog 99 #[(.pointer (some ⟨rb, 0, none⟩)), .map (some mb)] w fun e w' => e = .returned (.int .i64 ((stepP id X O (l.drop p)).err : Nat)) ∧ ∃ Ov', StV w0 base g rb bx mb n c id wd B E Ov' (stepP id X O (l.drop p)).X (stepP id X O (l.drop p)).O (p + (stepP id X O (l.drop p)).used) w' := by
  have hlen : 0 < (l.drop p).length := by rw [List.length_drop, Y.len]; omega
  have hmf : ∀ (fn : Fn) (first cap : Array Value) (w : World), (Instr.makeFunc fn first cap).run Tryz.prog w = .ok (.func fn first cap) w := fun _ _ _ _ => rfl
  have hd1 : (l.drop p).take 1 = [ch] := by rw [hd]; rfl
  have hd2 : l.drop (p + 1) = r := by rw [← List.drop_drop, hd]; rfl
  have hEs : Hid (∀ k cs t, E k cs t → k < w.heap.size) := fun k cs t e => (h.ext k cs t e).1.lt
  have hbs := h.bs
  have h3 := step_start G h rfl
  have ht := Lib.hid (take_st G Y h3 1 (by omega) (by omega))
  rw [hd1] at ht
  have c3 := h.run.cell 3 _ rfl
  have hrl := h.run.lt
  have hRe : Hid ((stepP id X O (ch :: r)).err ≠ 0 → (stepP id X O (ch :: r)).used = 0 ∧ (stepP id X O (ch :: r)).X = X ∧ (stepP id X O (ch :: r)).O = O) := step_err
  rw [hd]
  have hk : ch.toNat = 4 := by rw [← hch]; rfl
  obtain ⟨R, hR⟩ : ∃ R, stepP id X O (ch :: r) = R := ⟨_, rfl⟩
  have hRK : stepP id X O (4 :: r) = R := by rw [hch]; exact hR
  rw [hR] at hRe ⊢
  clear hR
  replace hA := Lib.hid hA
  replace hRK := Lib.hid hRK
  go_enter_defers Tryz.func99, Tryz.ntmps99
  go_wp2_with fail
  refine ht.out.mono ?_
  rintro e w1 ⟨B1, c1, rfl, hr1, hc1, hm1, h5⟩
  obtain ⟨s, hs⟩ : ∃ s, w.heap.size = s := ⟨_, rfl⟩
  rw [hs] at h5 hEs hbs ⊢
  rcases hr1.place with h0 | ⟨b, off, hB1, hbs1⟩
  · cases h0
  subst hB1
  have hcell := hr1.cells b off rfl 0 (by simp)
  simp only [List.getD_cons_zero, Nat.add_zero] at hcell
  have hlk := h5.map.look under_byteQ under_mapS (zero_funcQ w1) ch.toNat ch.toNat_lt
  clear hr1 ht c3 hrl h3 hs
  have hcon : Hid (Calls Tryz.prog 190 #[(.pointer (some ⟨bx, 0, none⟩))] w1 (DoneP w0 base g rb bx mb n c id wd B (E3 E s rb p) Ov X O R p)) := by
    obtain ⟨hb0, hVa, h1, h4, hwd, hX, hO⟩ := hA.out
    have hc := one_out (r := r) G hb0 hVa h1 h4 hX hO h5
    rw [hRK.out] at hc
    exact hc
  obtain ⟨z, hz⟩ : ∃ z : Int, ((ch.toNat : Nat) : Int) = z := ⟨_, rfl⟩
  rw [hz] at hcell hlk
  rw [hk] at hlk
  replace hlk : (Instr.lookup 142 (.map (some mb)) (.int .u8 z) true).run Tryz.prog w1 = .ok (.tuple #[.func (.func 190) #[] #[(.pointer (some ⟨bx, 0, none⟩))], .bool true]) w1 := hlk
  clear hz hk h hd hd1 hd2 Y hA hRK hch h5
  go_wp2_with fail
  refine (rmust_yes 1 _).mono ?_
  rintro e w2 ⟨rfl, rfl⟩
  go_wp2_with fail
  refine hcon.out.mono ?_
  rintro e w2 (⟨he0, rfl, Ov', h2⟩ | ⟨hen, rfl, q, h2⟩)
  · skip
    obtain ⟨pd, -⟩ := h2.ext (s + 1) #[.int .i64 0] 24 (.inr (.inr (.inl ⟨rfl, rfl, rfl⟩)))
    have d0 := pd.cell 0 _ rfl
    have df := pd.free 0
    have dl := pd.lt
    obtain ⟨hfin, y0⟩ := step_done G hbs hEs.out h2
    replace hfin := Lib.hid hfin
    clear h2 pd
    go_wp2
    show Leaves _ _ _ _ _ .returning _
    refine leaves_cons (f := 192) (args := #[.pointer (some ⟨s + 2, 0, none⟩), .pointer (some ⟨s, 0, none⟩), .pointer (some ⟨s + 1, 0, none⟩)]) (by simp) (by simp [go_sem]) ?_
    refine (rcatch_idle (s + 2) s (s + 1) _).mono ?_
    rintro e1 u8 w8 ⟨rfl, rfl, rfl⟩
    simp [Leaves, settle, results, Tryz.results99, go_sem, y0, he0]
    exact ⟨Ov', hfin.out⟩
  · skip
    obtain ⟨pa, -⟩ := h2.ext (s + 2) #[.int .i64 (p : Nat)] 3 (.inr (.inr (.inr ⟨rfl, rfl, rfl⟩)))
    obtain ⟨pb, -⟩ := h2.ext s #[(.pointer (some ⟨rb, 0, none⟩))] 139 (.inr (.inl ⟨rfl, rfl, rfl⟩))
    obtain ⟨pd, -, pdr, -⟩ := h2.ext (s + 1) #[.int .i64 0] 24 (.inr (.inr (.inl ⟨rfl, rfl, rfl⟩)))
    have hcat := Lib.hid (rcatch_thrown (s + 2) s (s + 1) rb (R.err : Nat) (p : Nat) [] _ pa pb pd h2.run pdr)
    replace h2 := Lib.hid h2
    clear pa pb pd pdr
    go_wp2
    refine leaves_cons (f := 192) (args := #[.pointer (some ⟨s + 2, 0, none⟩), .pointer (some ⟨s, 0, none⟩), .pointer (some ⟨s + 1, 0, none⟩)]) (by simp) (by simp [go_sem]) ?_
    refine hcat.out.mono ?_
    rintro e1 u8 w8 ⟨rfl, rfl, pd, pr, w10, hm1, hm2⟩
    have y0 := pd.cell 0 _ rfl
    have hfin := step_thrown G hbs hEs.out h2.out pr hm1 hm2
    clear pr hm1 hm2 pd
    simp [Leaves, settle, results, Tryz.results99, go_sem, y0]
    obtain ⟨z1, z2, z3⟩ := hRe.out hen
    exact ⟨Ov, by rw [z1, z2, z3]; exact hfin⟩
set_option maxRecDepth 100000 in
set_option maxHeartbeats 2000000 in
theorem stepq_load (G : Geo w0 base g rb bx mb) (Y : Byt w0 B n c l) (hA : w0.heap.size ≤ base ∧ VaW w0 ∧ 1 ≤ id ∧ id ≤ 4 ∧ wd = fW id ∧ X < 2 ^ quS id ∧ O.length ≤ 1000) (hp : p < n) {ch : UInt8} (hd : l.drop p = ch :: r) (hch : 5 = ch) (h : StV w0 base g rb bx mb n c id wd B E Ov X O p w) :
    Calls Tryz.prog 99 #[(.pointer (some ⟨rb, 0, none⟩)), .map (some mb)] w fun e w' => e = .returned (.int .i64 ((stepP id X O (l.drop p)).err : Nat)) ∧ ∃ Ov', StV w0 base g rb bx mb n c id wd B E Ov' (stepP id X O (l.drop p)).X (stepP id X O (l.drop p)).O (p + (stepP id X O (l.drop p)).used) w' := by
  have hlen : 0 < (l.drop p).length := by rw [List.length_drop, Y.len]; omega
  have hmf : ∀ (fn : Fn) (first cap : Array Value) (w : World), (Instr.makeFunc fn first cap).run Tryz.prog w = .ok (.func fn first cap) w := fun _ _ _ _ => rfl
  have hd1 : (l.drop p).take 1 = [ch] := by rw [hd]; rfl
  have hd2 : l.drop (p + 1) = r := by rw [← List.drop_drop, hd]; rfl
  have hEs : Hid (∀ k cs t, E k cs t → k < w.heap.size) := fun k cs t e => (h.ext k cs t e).1.lt
  have hbs := h.bs
  have h3 := step_start G h rfl
  have ht := Lib.hid (take_st G Y h3 1 (by omega) (by omega))
  rw [hd1] at ht
  have c3 := h.run.cell 3 _ rfl
  have hrl := h.run.lt
  have hRe : Hid ((stepP id X O (ch :: r)).err ≠ 0 → (stepP id X O (ch :: r)).used = 0 ∧ (stepP id X O (ch :: r)).X = X ∧ (stepP id X O (ch :: r)).O = O) := step_err
  rw [hd]
  have hk : ch.toNat = 5 := by rw [← hch]; rfl
  obtain ⟨R, hR⟩ : ∃ R, stepP id X O (ch :: r) = R := ⟨_, rfl⟩
  have hRK : stepP id X O (5 :: r) = R := by rw [hch]; exact hR
  rw [hR] at hRe ⊢
  clear hR
  replace hA := Lib.hid hA
  replace hRK := Lib.hid hRK
  go_enter_defers Tryz.func99, Tryz.ntmps99
  go_wp2_with fail
  refine ht.out.mono ?_
  rintro e w1 ⟨B1, c1, rfl, hr1, hc1, hm1, h5⟩
  obtain ⟨s, hs⟩ : ∃ s, w.heap.size = s := ⟨_, rfl⟩
  rw [hs] at h5 hEs hbs ⊢
  rcases hr1.place with h0 | ⟨b, off, hB1, hbs1⟩
  · cases h0
  subst hB1
  have hcell := hr1.cells b off rfl 0 (by simp)
  simp only [List.getD_cons_zero, Nat.add_zero] at hcell
  have hlk := h5.map.look under_byteQ under_mapS (zero_funcQ w1) ch.toNat ch.toNat_lt
  clear hr1 ht c3 hrl h3 hs
  have hcon : Hid (Calls Tryz.prog 191 #[(.pointer (some ⟨rb, 0, none⟩))] w1 (DoneP w0 base g rb bx mb n c id wd B (E3 E s rb p) Ov X O R p)) := by
    obtain ⟨hb0, hVa, h1, h4, hwd, hX, hO⟩ := hA.out
    have hc := one_load G Y h1 h4 (by omega) hd2 h5
    rw [hRK.out] at hc
    exact hc
  obtain ⟨z, hz⟩ : ∃ z : Int, ((ch.toNat : Nat) : Int) = z := ⟨_, rfl⟩
  rw [hz] at hcell hlk
  rw [hk] at hlk
  replace hlk : (Instr.lookup 142 (.map (some mb)) (.int .u8 z) true).run Tryz.prog w1 = .ok (.tuple #[.func (.func 191) #[(.pointer (some ⟨rb, 0, none⟩))] #[], .bool true]) w1 := hlk
  clear hz hk h hd hd1 hd2 Y hA hRK hch h5
  go_wp2_with fail
  refine (rmust_yes 1 _).mono ?_
  rintro e w2 ⟨rfl, rfl⟩
  go_wp2_with fail
  refine hcon.out.mono ?_
  rintro e w2 (⟨he0, rfl, Ov', h2⟩ | ⟨hen, rfl, q, h2⟩)
  · skip
    obtain ⟨pd, -⟩ := h2.ext (s + 1) #[.int .i64 0] 24 (.inr (.inr (.inl ⟨rfl, rfl, rfl⟩)))
    have d0 := pd.cell 0 _ rfl
    have df := pd.free 0
    have dl := pd.lt
    obtain ⟨hfin, y0⟩ := step_done G hbs hEs.out h2
    replace hfin := Lib.hid hfin
    clear h2 pd
    go_wp2
    show Leaves _ _ _ _ _ .returning _
    refine leaves_cons (f := 192) (args := #[.pointer (some ⟨s + 2, 0, none⟩), .pointer (some ⟨s, 0, none⟩), .pointer (some ⟨s + 1, 0, none⟩)]) (by simp) (by simp [go_sem]) ?_
    refine (rcatch_idle (s + 2) s (s + 1) _).mono ?_
    rintro e1 u8 w8 ⟨rfl, rfl, rfl⟩
    simp [Leaves, settle, results, Tryz.results99, go_sem, y0, he0]
    exact ⟨Ov', hfin.out⟩
  · skip
    obtain ⟨pa, -⟩ := h2.ext (s + 2) #[.int .i64 (p : Nat)] 3 (.inr (.inr (.inr ⟨rfl, rfl, rfl⟩)))
    obtain ⟨pb, -⟩ := h2.ext s #[(.pointer (some ⟨rb, 0, none⟩))] 139 (.inr (.inl ⟨rfl, rfl, rfl⟩))
    obtain ⟨pd, -, pdr, -⟩ := h2.ext (s + 1) #[.int .i64 0] 24 (.inr (.inr (.inl ⟨rfl, rfl, rfl⟩)))
    have hcat := Lib.hid (rcatch_thrown (s + 2) s (s + 1) rb (R.err : Nat) (p : Nat) [] _ pa pb pd h2.run pdr)
    replace h2 := Lib.hid h2
    clear pa pb pd pdr
    go_wp2
    refine leaves_cons (f := 192) (args := #[.pointer (some ⟨s + 2, 0, none⟩), .pointer (some ⟨s, 0, none⟩), .pointer (some ⟨s + 1, 0, none⟩)]) (by simp) (by simp [go_sem]) ?_
    refine hcat.out.mono ?_
    rintro e1 u8 w8 ⟨rfl, rfl, pd, pr, w10, hm1, hm2⟩
    have y0 := pd.cell 0 _ rfl
    have hfin := step_thrown G hbs hEs.out h2.out pr hm1 hm2
    clear pr hm1 hm2 pd
    simp [Leaves, settle, results, Tryz.results99, go_sem, y0]
    obtain ⟨z1, z2, z3⟩ := hRe.out hen
    exact ⟨Ov, by rw [z1, z2, z3]; exact hfin⟩
end
end Go.Proofs.YtobokaafmcfeaaaGreatDoor
