/- Script: must and take, walked. Conditions: none. -/
/- Script: a pattern's bytes, walked. Conditions: none. -/
/- Script: two patterns, and what is done with them, walked. Conditions: the variables that values read. -/
/- Script: the closures that add and take away, walked. Conditions: none. -/
/- Script: what is thrown in a step is caught. Conditions: none. -/
/- Script: the forms that it knows, walked. Conditions: the variables that values read. -/
import Derived.Test.YtobokaafmcfeaaaGreatDoorSk29
import Derived.Test.YtobokaafmcfeaaaGreatDoorSk20
import Derived.Defers
import Derived.Recover
import Derived.Tactics2
import Derived.RegionDies
import Derived.Test.YtobokaafmcfeaaaGreatDoorSk31
namespace Go.Proofs.YtobokaafmcfeaaaGreatDoor
open Go.RowKit Go.Cal
theorem rmust_yes (a : Int) (w : World) : Calls Tryz.prog 194 #[.bool true, .int .i64 a] w fun e w' => e = .returned (.tuple #[]) ∧ w = w' := by
  go_enter Tryz.func194, Tryz.ntmps194
  go_wp2
  go_end0
  exact ⟨rfl, rfl⟩
theorem rmust_no (a : Int) (w : World) : Calls Tryz.prog 194 #[.bool false, .int .i64 a] w fun e w' => e = .panicked [{ v := .iface 239 (.agg #[.int .i64 a]), recovered := false }] ∧ w = w' := by
  go_enter Tryz.func194, Tryz.ntmps194
  go_wp2
  exact ⟨rfl, rfl, rfl⟩
section
variable {w : World} {g rb n c p : Nat} {wd : Int} {B : Option Addr} {O : Value} {l : List UInt8}
set_option maxRecDepth 100000 in
set_option maxHeartbeats 4000000 in
theorem take_no (k : Nat) (hk : n - p < k) (hp : p ≤ n) (hn : n ≤ maxLen) (hR : pBlk rb #[.pointer (some ⟨g, 0, none⟩), .int .i64 wd, .slice B n c, .int .i64 (p : Nat), O] 141 w) :
    Calls Tryz.prog 193 #[.pointer (some ⟨rb, 0, none⟩), .int .i64 (k : Nat)] w fun e w' => e = .panicked [{ v := .iface 239 (.agg #[.int .i64 2]), recovered := false }] ∧ Below w.heap.size w w' := by
  have c2 := hR.cell 2 _ rfl
  have c3 := hR.cell 3 _ rfl
  have hlt := hR.lt
  have hm := Lib.hid fun w => rmust_no 2 w
  have hle : Hid (decide ((k : Int) ≤ (n : Int) - (p : Int)) = false) := by show _ = _; simp; omega
  have hwr : IntKind.i64.wrap ((n : Int) - (p : Int)) = (n : Int) - (p : Int) := by rw [IntKind.wrap_i64]; unfold maxLen at hn; omega
  clear hR hk hn
  go_enter Tryz.func193, Tryz.ntmps193
  go_wp2_with fail
  go_region_dies
  all_goals
    go_at_call 194
    rw [hle.out]
    refine Calls.mono (hm.out _) ?_
    rintro e w4 ⟨rfl, rfl⟩
    have hb9 := (Below.refl w.heap.size w).drew
    go_wp2
    exact ⟨rfl, rfl, hb9⟩
theorem RdB.mut {g : Nat} {B : Option Addr} {l : List UInt8} {w w' : World} (h : RdB w w.heap.size B l) (hm : Mut g w w') (hg : ∀ b o, B = some ⟨b, o, none⟩ → b ≠ g) : RdB w' w'.heap.size B l := by
  refine ⟨?_, fun b off e i hi => ?_⟩
  · rcases h.place with h1 | ⟨b, off, e, hb⟩
    · exact .inl h1
    · exact .inr ⟨b, off, e, Nat.lt_of_lt_of_le hb hm.size⟩
  · rcases h.place with h1 | ⟨b', off', e', hb⟩
    · subst h1; simp at hi
    · rw [e] at e'
      injection e' with e'
      injection e' with e1 e2
      subst e1; subst e2
      rw [← h.cells b off e i hi]
      unfold World.cell?
      rw [hm.block b hb (hg b off e)]
theorem RdB.keep2 {w : World} {B : Option Addr} {l : List UInt8} (h : RdB w w.heap.size B l) : RdB w.drew.drew w.drew.drew.heap.size B l := ⟨h.place, h.cells⟩
theorem rdb_none {w : World} {S : Nat} {B : Option Addr} : RdB w S B [] := ⟨.inl rfl, fun _ _ _ i hi => by simp at hi⟩
theorem rdb_cut {w : World} {S p k : Nat} {B : Option Addr} {l : List UInt8} (h : RdB w S B l) (hp : p + k ≤ l.length) : RdB w S (B.map (fun x => x.add p)) ((l.drop p).take k) := by
  rcases Nat.eq_zero_or_pos k with h0 | h0
  · subst h0
    exact ⟨.inl (by simp), fun _ _ _ i hi => by simp at hi⟩
  · rcases h.place with h1 | ⟨b, off, hB, hb⟩
    · subst h1; simp at hp; omega
    · subst hB
      refine ⟨.inr ⟨b, off + p, by simp [Addr.add], hb⟩, fun b' off' e i hi => ?_⟩
      have ha : (⟨b, off, none⟩ : Addr).add p = ⟨b, off + p, none⟩ := by
        by_cases h0 : p = 0
        · subst h0; simp [Addr.add]
        · simp [Addr.add, h0]
      rw [Option.map_some, ha] at e
      injection e with e
      injection e with e1 e2
      subst e1; subst e2
      have hi2 : i < k := by simp at hi; omega
      rw [Nat.add_assoc, h.cells b off rfl (p + i) (by omega)]
      simp [List.getD_eq_getElem?_getD, hi2]
set_option maxRecDepth 100000 in
set_option maxHeartbeats 4000000 in
theorem take_yes (k : Nat) (hk : k ≤ n - p) (hp : p ≤ n) (hn : n ≤ maxLen) (hc : n ≤ c) (hcm : c ≤ maxLen) (hR : pBlk rb #[.pointer (some ⟨g, 0, none⟩), .int .i64 wd, .slice B n c, .int .i64 (p : Nat), O] 141 w) (hl : l.length = n) (hB : RdB w w.heap.size B l) (hBr : ∀ b o, B = some ⟨b, o, none⟩ → b ≠ rb) :
    Calls Tryz.prog 193 #[.pointer (some ⟨rb, 0, none⟩), .int .i64 (k : Nat)] w fun e w' => ∃ B' c', e = .returned (.slice B' k c') ∧ RdB w' w'.heap.size B' ((l.drop p).take k) ∧ k ≤ c' ∧ c' ≤ maxLen ∧ pBlk rb #[.pointer (some ⟨g, 0, none⟩), .int .i64 wd, .slice B n c, .int .i64 ((p + k) : Nat), O] 141 w' ∧ Mut rb w w' := by
  have c2 := hR.cell 2 _ rfl
  have c3 := hR.cell 3 _ rfl
  have f3 := hR.free 3
  have hlt := hR.lt
  have hm := Lib.hid fun w => rmust_yes 2 w
  have hle : Hid (decide ((k : Int) ≤ (n : Int) - (p : Int)) = true) := by show _ = _; simp; omega
  have hwr : IntKind.i64.wrap ((n : Int) - (p : Int)) = (n : Int) - (p : Int) := by rw [IntKind.wrap_i64]; unfold maxLen at hn; omega
  have hw2 : IntKind.i64.wrap ((p : Int) + (k : Int)) = ((p + k : Nat) : Int) := by rw [IntKind.wrap_i64]; unfold maxLen at hn; omega
  have hw3 : IntKind.i64.wrap (p : Int) = (p : Int) := by rw [IntKind.wrap_i64]; unfold maxLen at hn; omega
  have hs0 : (0 : Int) ≤ (p : Int) := by omega
  have hs1 : (p : Int) ≤ (p : Int) + (k : Int) := by omega
  have hs2 : (p : Int) + (k : Int) ≤ (c : Int) := by omega
  have hm1 := Mut.set (i := 3) hR (.int .i64 ((p : Int) + (k : Int))) (.int .i64 (p : Nat)) rfl (by simp)
  have hR1 : pBlk rb #[.pointer (some ⟨g, 0, none⟩), .int .i64 wd, .slice B n c, .int .i64 ((p : Int) + (k : Int)), O] 141 (w.setCell ⟨rb, 3, none⟩ (.int .i64 ((p : Int) + (k : Int)))) := hR.setX 3 _
  have hBm := (hB.mut hm1 hBr)
  replace hk := Lib.hid hk
  go_enter Tryz.func193, Tryz.ntmps193
  go_wp2_with fail
  go_region_law (first | (go_simp; go_at_call 194; (try rw [hle.out]); refine Calls.mono (hm.out _) ?_; rintro e w4 ⟨rfl, rfl⟩) | fail)
  all_goals
    go_wp2_with fail
    go_region
    all_goals go_wp2
  all_goals
    try subst_vars
    go_ret
    have hk' := hk.out
    refine ⟨_, _, rfl, ?_, by omega, by omega, ?_, hm1.trans (Mut.of (((Below.refl _ _).drew).drew))⟩
    case refine_2 =>
      have h := pBlk_st _ _ _ _ _ hR1 (((Below.refl _ _).drew).drew)
      exact h
    first
      | exact RdB.keep2 (rdb_cut hBm (by omega))
      | exact RdB.keep2 (by rw [show k = 0 by omega, List.take_zero]; exact rdb_none)
end
end Go.Proofs.YtobokaafmcfeaaaGreatDoor
namespace Go.Proofs.YtobokaafmcfeaaaGreatDoor
open Go.RowKit Go.Cal
/-- The number that bytes spell, the first one first. -/
def patN : List UInt8 → Nat → Nat
  | [], N => N
  | x :: l, N => patN l (N * 256 + x.toNat)
theorem patN_snoc : ∀ (l : List UInt8) (N : Nat) (x : UInt8), patN (l ++ [x]) N = patN l N * 256 + x.toNat
  | [], _, _ => rfl
  | y :: l, N, x => by rw [List.cons_append, patN, patN]; exact patN_snoc l _ x
theorem patN_lt : ∀ (l : List UInt8) (N j : Nat), N < 256 ^ j → patN l N < 256 ^ (j + l.length)
  | [], N, j, h => h
  | x :: l, N, j, h => by
    have hx := x.toNat_lt
    have := patN_lt l (N * 256 + x.toNat) (j + 1) (by rw [Nat.pow_succ]; omega)
    rw [patN, List.length_cons, show j + (l.length + 1) = j + 1 + l.length by omega]
    exact this
theorem or_byte (x c : Nat) (hx : x < 72057594037927936) (hc : c < 256) : bits .or .u64 ((x : Int) * 256) (c : Int) = ((x * 256 + c : Nat) : Int) := by
  show IntKind.u64.wrap ((BitVec.ofInt 64 ((x : Int) * 256) ||| BitVec.ofInt 64 (c : Int)).toNat : Nat) = _
  have h1 : (BitVec.ofInt 64 ((x : Int) * 256)).toNat = x * 256 := by simp; omega
  have h2 : (BitVec.ofInt 64 (c : Int)).toNat = c := by simp; omega
  rw [BitVec.toNat_or, h1, h2, show x * 256 = x <<< 8 by rw [Nat.shiftLeft_eq], ← Nat.shiftLeft_add_eq_or_of_lt (show c < 2 ^ 8 by omega), Nat.shiftLeft_eq]
  simp [IntKind.wrap, IntKind.bits, IntKind.signed]
  omega
section
variable {w : World} {g rb n c p : Nat} {wd : Int} {B : Option Addr} {O : Value} {l : List UInt8}
set_option maxRecDepth 100000 in
set_option maxHeartbeats 4000000 in
theorem pat_no (k : Nat) (hwd : wd = 8 * (k : Int)) (hk8 : k ≤ 8) (hk : n - p < k) (hp : p ≤ n) (hn : n ≤ maxLen) (hR : pBlk rb #[.pointer (some ⟨g, 0, none⟩), .int .i64 wd, .slice B n c, .int .i64 (p : Nat), O] 141 w) :
    Calls Tryz.prog 241 #[.pointer (some ⟨rb, 0, none⟩)] w fun e w' => e = .panicked [{ v := .iface 239 (.agg #[.int .i64 2]), recovered := false }] ∧ Below w.heap.size w w' := by
  have ht := Lib.hid (take_no k hk hp hn hR)
  have c1 := hR.cell 1 _ rfl
  have hlt := hR.lt
  have hdv : wd / 8 = (k : Int) := by omega
  clear hR hk hn
  go_enter Tryz.func241, Tryz.ntmps241
  go_wp2_with fail
  refine ht.out.mono ?_
  rintro e w1 ⟨rfl, hb⟩
  go_wp2
  exact ⟨rfl, rfl, hb⟩
set_option maxRecDepth 100000 in
set_option maxHeartbeats 4000000 in
theorem pat_yes (k : Nat) (hwd : wd = 8 * (k : Int)) (hk8 : k ≤ 8) (hk : k ≤ n - p) (hp : p ≤ n) (hn : n ≤ maxLen) (hc : n ≤ c) (hcm : c ≤ maxLen) (hR : pBlk rb #[.pointer (some ⟨g, 0, none⟩), .int .i64 wd, .slice B n c, .int .i64 (p : Nat), O] 141 w) (hl : l.length = n) (hB : RdB w w.heap.size B l) (hBr : ∀ b o, B = some ⟨b, o, none⟩ → b ≠ rb) :
    Calls Tryz.prog 241 #[.pointer (some ⟨rb, 0, none⟩)] w fun e w' => e = .returned (.int .u64 (patN ((l.drop p).take k) 0 : Nat)) ∧ pBlk rb #[.pointer (some ⟨g, 0, none⟩), .int .i64 wd, .slice B n c, .int .i64 ((p + k) : Nat), O] 141 w' ∧ Mut rb w w' := by
  have ht := Lib.hid (take_yes k hk hp hn hc hcm hR hl hB hBr)
  have c1 := hR.cell 1 _ rfl
  have hlt := hR.lt
  have hdv : wd / 8 = (k : Int) := by omega
  have hlen : ((l.drop p).take k).length = k := by simp; omega
  obtain ⟨L, hL⟩ : ∃ L, (l.drop p).take k = L := ⟨_, rfl⟩
  rw [hL] at ht hlen ⊢
  clear hR hk hn hp hB hc hcm hBr hl hL
  go_enter Tryz.func241, Tryz.ntmps241
  go_wp2_with fail
  refine ht.out.mono ?_
  rintro e w1 ⟨B', c', rfl, hrd, hkc, hcm, hp1, hm⟩
  clear c1 hlt ht hdv
  replace hm := Lib.hid hm
  replace hp1 := Lib.hid hp1
  go_wp2_with fail
  go_loopg [2, 4, 13] (k + 1) (fun m p2 p4 p13 wr => ∃ i : Nat, p13 = .int .i64 (i : Nat) ∧ i + m = k + 1 ∧ i ≤ k ∧ p2 = .int .u64 (patN (L.take i) 0 : Nat) ∧ wr = w1)
  case atStart => exact ⟨0, rfl, by omega, by omega, rfl, rfl⟩
  case round =>
    obtain ⟨i, rfl, hi, hik, rfl, rfl⟩ := hrel
    by_cases hlt : i < k
    · have hlt' : (i : Int) < (k : Int) := by omega
      rcases hrd.place with h0 | ⟨b, off, hb, hbs⟩
      · subst h0; simp at hlen; omega
      · subst hb
        have hcell := hrd.cells b off rfl i (by omega)
        have hx := (L.getD i 0).toNat_lt
        have hX : patN (L.take i) 0 < 72057594037927936 := by
          have h1 := patN_lt (L.take i) 0 0 (by decide)
          rw [List.length_take, hlen] at h1
          refine Nat.lt_of_lt_of_le h1 (Nat.le_trans (Nat.pow_le_pow_right (by decide) (show 0 + min i k ≤ 7 by omega)) (by decide))
        have hor := or_byte (patN (L.take i) 0) (L.getD i 0).toNat hX hx
        have hsn : patN (L.take (i + 1)) 0 = patN (L.take i) 0 * 256 + (L.getD i 0).toNat := by
          rw [List.take_add_one, show L[i]?.toList = [L.getD i 0] by simp [List.getD_eq_getElem?_getD, List.getElem?_eq_getElem (show i < L.length by omega)]]
          exact patN_snoc _ _ _
        generalize patN (L.take i) 0 = X at hor hsn hX ⊢
        generalize (L.getD i 0).toNat = y at hor hsn hx hcell
        replace hsn := Lib.hid hsn
        go_wp2
        go_roundg (gk - 1)
        case measure => omega
        case rel => exact ⟨i + 1, by simp, by omega, by omega, by rw [hsn.out]; simp, rfl⟩
    · have hie : i = k := by omega
      subst hie
      have hlt' : ¬ (i : Int) < (i : Int) := by omega
      rw [List.take_of_length_le (by omega)]
      go_wp2
      go_ret
      exact ⟨rfl, by have h := hp1.out; rw [hwd] at h; simpa using h, hm.out⟩
end
end Go.Proofs.YtobokaafmcfeaaaGreatDoor
namespace Go.Proofs.YtobokaafmcfeaaaGreatDoor
open Go.RowKit Go.Cal
theorem QuF.mut {F : Nat → Prop} {g x : Nat} {id : Int} {N : Nat} {w w' : World} (h : QuF F g id N w) (hm : Mut x w w') (hne : g ≠ x) : QuF F g id N w' := by
  obtain ⟨A, n, c, hp, hv, ho⟩ := h
  exact ⟨A, n, c, hp.mut hm hne, hv.mut hm, ho⟩
section
variable {w : World} {g rb bx n c p : Nat} {wd : Int} {B : Option Addr} {O : Value} {l : List UInt8}
theorem patN_64 (L : List UInt8) (h : L.length ≤ 8) : 0 ≤ ((patN L 0 : Nat) : Int) ∧ ((patN L 0 : Nat) : Int) < 18446744073709551616 := by
  have h1 := patN_lt L 0 0 (by decide)
  have h2 : 256 ^ (0 + L.length) ≤ 256 ^ 8 := Nat.pow_le_pow_right (by decide) (by omega)
  have h3 : (256 : Nat) ^ 8 = 18446744073709551616 := by decide
  omega
set_option maxRecDepth 100000 in
set_option maxHeartbeats 4000000 in
theorem two_add {F : Nat → Prop} {X : Nat} {id : Int} (h1 : 1 ≤ id) (h4 : id ≤ 4) (hF : ∀ b, F b → b < w.heap.size) (k : Nat) (hwd : wd = 8 * (k : Int)) (hk8 : k ≤ 8) (hk : k + k ≤ n - p) (hp : p ≤ n) (hn : n ≤ maxLen) (hc : n ≤ c) (hcm : c ≤ maxLen)
    (hR : pBlk rb #[.pointer (some ⟨g, 0, none⟩), .int .i64 wd, .slice B n c, .int .i64 (p : Nat), O] 141 w) (hl : l.length = n) (hB : RdB w w.heap.size B l) (hBr : ∀ b o, B = some ⟨b, o, none⟩ → b ≠ rb) (hX : X < 2 ^ quS id) (hgr : g ≠ rb) (hq : QuF F g id X w) (hW : ∀ W, Mut rb w W → VaW W) :
    Calls Tryz.prog 188 #[.pointer (some ⟨rb, 0, none⟩), .func (.func 33) #[.pointer (some ⟨g, 0, none⟩)] #[]] w fun e w' => e = .returned (.tuple #[]) ∧
      QuF F g id (quDo id X (patN ((l.drop p).take k) 0 : Nat) (patN ((l.drop (p + k)).take k) 0 : Nat) false) w' ∧ pBlk rb #[.pointer (some ⟨g, 0, none⟩), .int .i64 wd, .slice B n c, .int .i64 ((p + k + k) : Nat), O] 141 w' ∧ ∃ w1, Mut rb w w1 ∧ Mut g w1 w' := by
  have ht := Lib.hid (pat_yes k hwd hk8 (show k ≤ n - p by omega) hp hn hc hcm hR hl hB hBr)
  have ht2 := Lib.hid fun (w1 : World) (hm : Mut rb w w1) (hR1 : pBlk rb #[.pointer (some ⟨g, 0, none⟩), .int .i64 wd, .slice B n c, .int .i64 ((p + k) : Nat), O] 141 w1) => pat_yes k hwd hk8 (show k ≤ n - (p + k) by omega) (by omega) hn hc hcm hR1 hl (hB.mut hm hBr) hBr
  have ha := patN_64 ((l.drop p).take k) (by simp; omega)
  have hb := patN_64 ((l.drop (p + k)).take k) (by simp; omega)
  have hadd := Lib.hid fun (w2 : World) (hm : Mut rb w w2) (hq : QuF F g id X w2) => qadd_o (fun b hb => Nat.lt_of_lt_of_le (hF b hb) hm.size) h1 h4 _ _ ha hb hX hq (hW w2 hm)
  generalize patN ((l.drop p).take k) 0 = x at ht hadd ⊢
  generalize patN ((l.drop (p + k)).take k) 0 = y at ht2 hadd ⊢
  have hqm := Lib.hid fun (w2 : World) (hm : Mut rb w w2) => QuF.mut hq hm hgr
  clear hR hB hl hn hc hcm hk hp hwd hk8 hq ha hb hX hF hW hBr
  go_enter Tryz.func188, Tryz.ntmps188
  go_wp2_with fail
  refine ht.out.mono ?_
  rintro e w1 ⟨rfl, hp1, hm1⟩
  go_wp2_with fail
  refine (ht2.out _ hm1 hp1).mono ?_
  rintro e w2 ⟨rfl, hp2, hm2⟩
  have hm := hm1.trans hm2
  have hq2 := hqm.out _ hm
  clear ht ht2 hm1 hm2 hp1 hqm
  go_wp2_with fail
  refine (hadd.out _ hm hq2).mono ?_
  rintro e w3 ⟨rfl, hq3, hm3⟩
  go_wp2
  simp [bodyPost, results, Tryz.results188]
  exact ⟨hq3, hp2.mut hm3 (Ne.symm hgr), _, hm, hm3⟩
set_option maxRecDepth 100000 in
set_option maxHeartbeats 4000000 in
theorem two_sub {F : Nat → Prop} {X : Nat} {id : Int} (h1 : 1 ≤ id) (h4 : id ≤ 4) (hF : ∀ b, F b → b < w.heap.size) (k : Nat) (hwd : wd = 8 * (k : Int)) (hk8 : k ≤ 8) (hk : k + k ≤ n - p) (hp : p ≤ n) (hn : n ≤ maxLen) (hc : n ≤ c) (hcm : c ≤ maxLen)
    (hR : pBlk rb #[.pointer (some ⟨g, 0, none⟩), .int .i64 wd, .slice B n c, .int .i64 (p : Nat), O] 141 w) (hl : l.length = n) (hB : RdB w w.heap.size B l) (hBr : ∀ b o, B = some ⟨b, o, none⟩ → b ≠ rb) (hX : X < 2 ^ quS id) (hgr : g ≠ rb) (hq : QuF F g id X w) (hW : ∀ W, Mut rb w W → VaW W) :
    Calls Tryz.prog 188 #[.pointer (some ⟨rb, 0, none⟩), .func (.func 34) #[.pointer (some ⟨g, 0, none⟩)] #[]] w fun e w' => e = .returned (.tuple #[]) ∧
      QuF F g id (quDo id X (patN ((l.drop p).take k) 0 : Nat) (patN ((l.drop (p + k)).take k) 0 : Nat) true) w' ∧ pBlk rb #[.pointer (some ⟨g, 0, none⟩), .int .i64 wd, .slice B n c, .int .i64 ((p + k + k) : Nat), O] 141 w' ∧ ∃ w1, Mut rb w w1 ∧ Mut g w1 w' := by
  have ht := Lib.hid (pat_yes k hwd hk8 (show k ≤ n - p by omega) hp hn hc hcm hR hl hB hBr)
  have ht2 := Lib.hid fun (w1 : World) (hm : Mut rb w w1) (hR1 : pBlk rb #[.pointer (some ⟨g, 0, none⟩), .int .i64 wd, .slice B n c, .int .i64 ((p + k) : Nat), O] 141 w1) => pat_yes k hwd hk8 (show k ≤ n - (p + k) by omega) (by omega) hn hc hcm hR1 hl (hB.mut hm hBr) hBr
  have ha := patN_64 ((l.drop p).take k) (by simp; omega)
  have hb := patN_64 ((l.drop (p + k)).take k) (by simp; omega)
  have hadd := Lib.hid fun (w2 : World) (hm : Mut rb w w2) (hq : QuF F g id X w2) => qsub_o (fun b hb => Nat.lt_of_lt_of_le (hF b hb) hm.size) h1 h4 _ _ ha hb hX hq (hW w2 hm)
  generalize patN ((l.drop p).take k) 0 = x at ht hadd ⊢
  generalize patN ((l.drop (p + k)).take k) 0 = y at ht2 hadd ⊢
  have hqm := Lib.hid fun (w2 : World) (hm : Mut rb w w2) => QuF.mut hq hm hgr
  clear hR hB hl hn hc hcm hk hp hwd hk8 hq ha hb hX hF hW hBr
  go_enter Tryz.func188, Tryz.ntmps188
  go_wp2_with fail
  refine ht.out.mono ?_
  rintro e w1 ⟨rfl, hp1, hm1⟩
  go_wp2_with fail
  refine (ht2.out _ hm1 hp1).mono ?_
  rintro e w2 ⟨rfl, hp2, hm2⟩
  have hm := hm1.trans hm2
  have hq2 := hqm.out _ hm
  clear ht ht2 hm1 hm2 hp1 hqm
  go_wp2_with fail
  refine (hadd.out _ hm hq2).mono ?_
  rintro e w3 ⟨rfl, hq3, hm3⟩
  go_wp2
  simp [bodyPost, results, Tryz.results188]
  exact ⟨hq3, hp2.mut hm3 (Ne.symm hgr), _, hm, hm3⟩
set_option maxRecDepth 100000 in
set_option maxHeartbeats 4000000 in
theorem two_no (f : Value) (k : Nat) (hwd : wd = 8 * (k : Int)) (hk8 : k ≤ 8) (hk : n - p < k + k) (hp : p ≤ n) (hn : n ≤ maxLen) (hc : n ≤ c) (hcm : c ≤ maxLen)
    (hR : pBlk rb #[.pointer (some ⟨g, 0, none⟩), .int .i64 wd, .slice B n c, .int .i64 (p : Nat), O] 141 w) (hl : l.length = n) (hB : RdB w w.heap.size B l) (hBr : ∀ b o, B = some ⟨b, o, none⟩ → b ≠ rb) :
    Calls Tryz.prog 188 #[.pointer (some ⟨rb, 0, none⟩), f] w fun e w' => e = .panicked [{ v := .iface 239 (.agg #[.int .i64 2]), recovered := false }] ∧ ∃ q, pBlk rb #[.pointer (some ⟨g, 0, none⟩), .int .i64 wd, .slice B n c, .int .i64 (q : Nat), O] 141 w' ∧ Mut rb w w' := by
  by_cases hk1 : n - p < k
  · have ht := Lib.hid (pat_no k hwd hk8 hk1 hp hn hR)
    have hpe := Lib.hid hR
    clear hR hB hl hn hc hcm hk hp hwd hk8 hBr hk1
    go_enter Tryz.func188, Tryz.ntmps188
    go_wp2_with fail
    refine ht.out.mono ?_
    rintro e w1 ⟨rfl, hb1⟩
    go_wp2
    exact ⟨rfl, rfl, p, pBlk_st _ _ _ _ _ hpe.out hb1, Mut.of hb1⟩
  · have ht := Lib.hid (pat_yes k hwd hk8 (show k ≤ n - p by omega) hp hn hc hcm hR hl hB hBr)
    have ht2 := Lib.hid fun (w1 : World) (hR1 : pBlk rb #[.pointer (some ⟨g, 0, none⟩), .int .i64 wd, .slice B n c, .int .i64 ((p + k) : Nat), O] 141 w1) => pat_no k hwd hk8 (show n - (p + k) < k by omega) (by omega) hn hR1
    clear hR hB hl hn hc hcm hk hp hwd hk8 hBr hk1
    go_enter Tryz.func188, Tryz.ntmps188
    go_wp2_with fail
    refine ht.out.mono ?_
    rintro e w1 ⟨rfl, hp1, hm1⟩
    go_wp2_with fail
    refine (ht2.out _ hp1).mono ?_
    rintro e w2 ⟨rfl, hb2⟩
    go_wp2
    exact ⟨rfl, rfl, p + k, pBlk_st _ _ _ _ _ hp1 hb2, hm1.trans (Mut.of hb2)⟩
end
end Go.Proofs.YtobokaafmcfeaaaGreatDoor
namespace Go.Proofs.YtobokaafmcfeaaaGreatDoor
open Go.RowKit Go.Cal
section
variable {w : World} {g rb bx : Nat} {r1 r2 r3 r4 : Value}
set_option maxRecDepth 100000 in
set_option maxHeartbeats 4000000 in
theorem do1_of {Q : Ending → World → Prop} (hb : pBlk bx #[.pointer (some ⟨rb, 0, none⟩)] 139 w) (hR : pBlk rb #[.pointer (some ⟨g, 0, none⟩), r1, r2, r3, r4] 141 w)
    (htwo : Calls Tryz.prog 188 #[.pointer (some ⟨rb, 0, none⟩), .func (.func 33) #[.pointer (some ⟨g, 0, none⟩)] #[]] w.drew Q) (hQ : ∀ e w', Q e w' → e = .returned (.tuple #[]) ∨ ∃ ch, e = .panicked ch) :
    Calls Tryz.prog 187 #[.pointer (some ⟨bx, 0, none⟩)] w Q := by
  have b0 := hb.cell 0 _ rfl
  have c0 := hR.cell 0 _ rfl
  have hlt := hR.lt
  have hlb := hb.lt
  replace htwo := Lib.hid htwo
  replace hQ := Lib.hid hQ
  clear hb hR
  go_enter Tryz.func187, Tryz.ntmps187
  go_wp2_with fail
  go_region_dies
  all_goals
    go_at_call 188
    refine Calls.mono htwo.out ?_
    intro e w' h
    rcases hQ.out e w' h with rfl | ⟨ch, rfl⟩
    · go_wp2
      refine wpAny_done (by kernel_rfl) ?_ _
      exact ⟨rfl, .tuple #[], by simp [results, Tryz.results187, go_sem], h⟩
    · go_wp2
      exact ⟨rfl, h⟩
set_option maxRecDepth 100000 in
set_option maxHeartbeats 4000000 in
theorem do2_of {Q : Ending → World → Prop} (hb : pBlk bx #[.pointer (some ⟨rb, 0, none⟩)] 139 w) (hR : pBlk rb #[.pointer (some ⟨g, 0, none⟩), r1, r2, r3, r4] 141 w)
    (htwo : Calls Tryz.prog 188 #[.pointer (some ⟨rb, 0, none⟩), .func (.func 34) #[.pointer (some ⟨g, 0, none⟩)] #[]] w.drew Q) (hQ : ∀ e w', Q e w' → e = .returned (.tuple #[]) ∨ ∃ ch, e = .panicked ch) :
    Calls Tryz.prog 189 #[.pointer (some ⟨bx, 0, none⟩)] w Q := by
  have b0 := hb.cell 0 _ rfl
  have c0 := hR.cell 0 _ rfl
  have hlt := hR.lt
  have hlb := hb.lt
  replace htwo := Lib.hid htwo
  replace hQ := Lib.hid hQ
  clear hb hR
  go_enter Tryz.func189, Tryz.ntmps189
  go_wp2_with fail
  go_region_dies
  all_goals
    go_at_call 188
    refine Calls.mono htwo.out ?_
    intro e w' h
    rcases hQ.out e w' h with rfl | ⟨ch, rfl⟩
    · go_wp2
      refine wpAny_done (by kernel_rfl) ?_ _
      exact ⟨rfl, .tuple #[], by simp [results, Tryz.results189, go_sem], h⟩
    · go_wp2
      exact ⟨rfl, h⟩
end
end Go.Proofs.YtobokaafmcfeaaaGreatDoor
namespace Go.Proofs.YtobokaafmcfeaaaGreatDoor
open Go.RowKit Go.Cal
theorem rassert (b : Int) (xt : TypeId) (w : World) : (Instr.typeAssert (.iface 239 (.agg #[.int .i64 b])) xt 239 true).run Tryz.prog w = .ok (.tuple #[.agg #[.int .i64 b], .bool true]) w := by
  unfold Instr.typeAssert
  simp [run_underlying Tryz.underlying239, Sem.run_bind, Sem.run_pure]
set_option maxRecDepth 100000 in
theorem rcatch_idle (a b d : Nat) (w : World) :
    CallsD Tryz.prog 192 #[.pointer (some ⟨a, 0, none⟩), .pointer (some ⟨b, 0, none⟩), .pointer (some ⟨d, 0, none⟩)] .returning w fun e u' w' => e = .returned (.tuple #[]) ∧ u' = .returning ∧ w' = w := by
  refine callsD_of_wpS Tryz.func192 rfl fun c₀ cs hu => ?_
  apply wpS_seq
  apply wpS_region
  simp [wpOpsS, go_sem, recoverD, hu, Tryz.ntmps192, Exit.thenS]
  apply wpS_seq
  apply wpS_region
  simp [wpOpsS, go_sem, Exit.thenS]
  refine wpS_cond (t := false) (by simp [Act.eval, Array.replicate]) ?_
  simp only [Bool.false_eq_true, if_false]
  refine wpS_of_wp (wp_skip ?_)
  cases c₀
  simp_all [bodyPostS, results, Tryz.results192]
set_option maxRecDepth 100000 in
set_option maxHeartbeats 1000000 in
theorem rcatch_thrown (a b d rb : Nat) (e : Int) (p0 : Int) (older : List PanicEntry) (w : World) {r0 r1 r2 r4 : Value} {y q : Int} (ha : pBlk a #[.int .i64 p0] 3 w) (hb : pBlk b #[.pointer (some ⟨rb, 0, none⟩)] 139 w) (hd : pBlk d #[.int .i64 y] 24 w) (hr : pBlk rb #[r0, r1, r2, .int .i64 q, r4] 141 w) (hne : d ≠ rb) :
    CallsD Tryz.prog 192 #[.pointer (some ⟨a, 0, none⟩), .pointer (some ⟨b, 0, none⟩), .pointer (some ⟨d, 0, none⟩)] (.panicking ({ v := .iface 239 (.agg #[.int .i64 e]), recovered := false } :: older)) w fun x u' w' =>
      x = .returned (.tuple #[]) ∧ u' = .panicking ({ v := .iface 239 (.agg #[.int .i64 e]), recovered := true } :: older) ∧ pBlk d #[.int .i64 e] 24 w' ∧ pBlk rb #[r0, r1, r2, .int .i64 p0, r4] 141 w' ∧ ∃ w1, Mut rb w w1 ∧ Mut d w1 w' := by
  have hta := rassert e
  have c0 := ha.cell 0 _ rfl
  have c1 := hb.cell 0 _ rfl
  have c2 := hd.cell 0 _ rfl
  have c3 := hr.cell 3 _ rfl
  have f2 := hd.free 0
  have f3 := hr.free 3
  have la := ha.lt
  have lb := hb.lt
  have ld := hd.lt
  have lr := hr.lt
  refine callsD_of_wpS Tryz.func192 rfl fun c₀ cs hu => ?_
  apply wpS_seq
  apply wpS_region
  simp [wpOpsS, go_sem, recoverD, hu, Tryz.ntmps192, Exit.thenS]
  apply wpS_seq
  apply wpS_region
  simp [wpOpsS, go_sem, Exit.thenS]
  refine wpS_cond (t := true) (by simp [Act.eval, Array.replicate]) ?_
  simp only [if_true]
  refine wpS_of_wp ?_
  simp [Array.replicate]
  go_wp2
  go_region
  all_goals
    go_wp2
    simp [bodyPostS, results, Tryz.results192]
    have k0 := pBlk.othR hd (g' := rb) hne 3 (.int .i64 p0)
    have k1 := k0.setX 0 (.int .i64 e)
    have k2 := pBlk.othR (hr.setX 3 (.int .i64 p0)) (g' := d) (Ne.symm hne) 0 (.int .i64 e)
    have hm1 := Mut.set (i := 3) hr (.int .i64 p0) (.int .i64 q) rfl (by simp)
    have hm2 := Mut.set (i := 0) k0 (.int .i64 e) (.int .i64 y) rfl (by simp)
    have hD := fun W : World => ((Below.refl W.heap.size W).alloc (Nat.le_refl _) (.cells #[.int .i64 e] 239)).drew
    exact ⟨pBlk_st _ _ _ _ _ k1 (hD _), pBlk_st _ _ _ _ _ k2 (hD _), _, hm1, hm2.trans (Mut.of (hD _))⟩
end Go.Proofs.YtobokaafmcfeaaaGreatDoor
namespace Go.Proofs.YtobokaafmcfeaaaGreatDoor
open Go.RowKit Go.Cal
theorem form_size : (Tryz.prog.info? 67).map (·.size) = some 7 := by kernel_rfl
theorem cells7F {w : World} {g : Nat} {t : TypeId} {a b c d e f h : Value} (hp : pBlk g #[a, b, c, d, e, f, h] t w) : w.cell? ⟨g, 0, none⟩ = some a ∧ w.cell? ⟨g, 1, none⟩ = some b ∧ w.cell? ⟨g, 2, none⟩ = some c ∧ w.cell? ⟨g, 3, none⟩ = some d ∧ w.cell? ⟨g, 4, none⟩ = some e ∧ w.cell? ⟨g, 5, none⟩ = some f ∧ w.cell? ⟨g, 6, none⟩ = some h :=
  ⟨hp.cell 0 _ rfl, hp.cell 1 _ rfl, hp.cell 2 _ rfl, hp.cell 3 _ rfl, hp.cell 4 _ rfl, hp.cell 5 _ rfl, hp.cell 6 _ rfl⟩
set_option maxRecDepth 100000 in
set_option maxHeartbeats 4000000 in
theorem sof_yes (id : Int) (h1 : 1 ≤ id) (h4 : id ≤ 4) (w : World) (hW : VaW w) : Calls Tryz.prog 90 #[.int .i64 id] w fun e w' => e = .returned (.tuple #[.agg #[.int .i64 (fK id), .int .i64 (fW id), .int .i64 (fM id), .int .i64 (fB id), .int .u64 (fT id), .int .u64 (fI id), .int .u64 (fN id)], .int .i64 0]) ∧ Below w.heap.size w w' := by
  have hof := Lib.hid fun w (hW : VaW w) => fo_of id w hW.frm h1 (by omega)
  have hk := posit_kind h1 h4
  rw [hk] at hof ⊢
  have hb0 := (Below.refl w.heap.size w).alloc (Nat.le_refl _) (.cells #[.int .i64 0, .int .i64 0, .int .i64 0, .int .i64 0, .int .u64 0, .int .u64 0, .int .u64 0] 67)
  have hr0 := pBlk_made w #[.int .i64 0, .int .i64 0, .int .i64 0, .int .i64 0, .int .u64 0, .int .u64 0, .int .u64 0] 67
  have hW0 := hW.below hb0
  go_enter Tryz.func90, Tryz.ntmps90
  go_wp2_with fail
  refine (hof.out _ hW0).mono ?_
  rintro e w1 ⟨rfl, hb⟩
  have hr1 := pBlk_st _ _ _ _ _ hr0 hb
  have hr2 := pBlk_st _ _ _ _ _ hr1 ((Below.refl w1.heap.size w1).alloc (Nat.le_refl _) (.cells #[.int .i64 1, .int .i64 (fW id), .int .i64 (fM id), .int .i64 (fB id), .int .u64 (fT id), .int .u64 (fI id), .int .u64 (fN id)] 67))
  have hf2 := pBlk_made w1 #[.int .i64 1, .int .i64 (fW id), .int .i64 (fM id), .int .i64 (fB id), .int .u64 (fT id), .int .u64 (fI id), .int .u64 (fN id)] 67
  have hB2 := (hb0.trans (hb.mono hb0.size)).trans (((Below.refl w1.heap.size w1).alloc (Nat.le_refl _) (.cells #[.int .i64 1, .int .i64 (fW id), .int .i64 (fM id), .int .i64 (fB id), .int .u64 (fT id), .int .u64 (fI id), .int .u64 (fN id)] 67)).mono (Nat.le_trans hb0.size hb.size))
  obtain ⟨q0, q1, q2, q3, q4, q5, q6⟩ := cells7F hf2
  go_wp2_with (first | ((with_reducible show wpList _ _ _ (Oper.mk _ (Op.store 67 _ _) _ _ _ _ :: _) _ _); refine wpList_store_whole _ rfl 67 _ _ rfl w.heap.size #[.int .i64 1, .int .i64 (fW id), .int .i64 (fM id), .int .i64 (fB id), .int .u64 (fT id), .int .u64 (fI id), .int .u64 (fN id)] #[.int .i64 0, .int .i64 0, .int .i64 0, .int .i64 0, .int .u64 0, .int .u64 0, .int .u64 0] 67 rfl rfl hr2 form_size rfl (by simp [Value.oneCell']) ?_; intro w3 hp3 hb3 hz3; obtain ⟨r0, r1, r2, r3, r4, r5, r6⟩ := cells7F hp3))
  exact bodyPost_ret (v := .tuple #[.agg #[.int .i64 1, .int .i64 (fW id), .int .i64 (fM id), .int .i64 (fB id), .int .u64 (fT id), .int .u64 (fI id), .int .u64 (fN id)], .int .i64 0]) (by simp [results, Tryz.results90, go_sem, r0, r1, r2, r3, r4, r5, r6]) rfl ⟨rfl, hB2.trans hb3⟩
set_option maxRecDepth 100000 in
set_option maxHeartbeats 4000000 in
theorem sof_no (id : Int) (h : id < 1 ∨ 4 < id) (w : World) (hW : VaW w) : Calls Tryz.prog 90 #[.int .i64 id] w fun e w' => e = .returned (.tuple #[.agg #[.int .i64 0, .int .i64 0, .int .i64 0, .int .i64 0, .int .u64 0, .int .u64 0, .int .u64 0], .int .i64 3]) ∧ Below w.heap.size w w' := by
  have hb0 := (Below.refl w.heap.size w).alloc (Nat.le_refl _) (.cells #[.int .i64 0, .int .i64 0, .int .i64 0, .int .i64 0, .int .u64 0, .int .u64 0, .int .u64 0] 67)
  have hr0 := pBlk_made w #[.int .i64 0, .int .i64 0, .int .i64 0, .int .i64 0, .int .u64 0, .int .u64 0, .int .u64 0] 67
  have hW0 := hW.below hb0
  by_cases hn : id < 1 ∨ 15 ≤ id
  · have hof := Lib.hid fun w => fo_none id w hn
    go_enter Tryz.func90, Tryz.ntmps90
    go_wp2_with fail
    refine (hof.out _).mono ?_
    rintro e w1 ⟨rfl, hb⟩
    have hr1 := pBlk_st _ _ _ _ _ hr0 hb
    have hr2 := pBlk_st _ _ _ _ _ hr1 ((Below.refl w1.heap.size w1).alloc (Nat.le_refl _) (.cells #[.int .i64 0, .int .i64 0, .int .i64 0, .int .i64 0, .int .u64 0, .int .u64 0, .int .u64 0] 67))
    have hB2 := (hb0.trans (hb.mono hb0.size)).trans (((Below.refl w1.heap.size w1).alloc (Nat.le_refl _) (.cells #[.int .i64 0, .int .i64 0, .int .i64 0, .int .i64 0, .int .u64 0, .int .u64 0, .int .u64 0] 67)).mono (Nat.le_trans hb0.size hb.size))
    go_wp2_with (first | ((with_reducible show wpList _ _ _ (Oper.mk _ (Op.store 67 _ _) _ _ _ _ :: _) _ _); refine wpList_store_whole _ rfl 67 _ _ rfl w.heap.size #[.int .i64 0, .int .i64 0, .int .i64 0, .int .i64 0, .int .u64 0, .int .u64 0, .int .u64 0] #[.int .i64 0, .int .i64 0, .int .i64 0, .int .i64 0, .int .u64 0, .int .u64 0, .int .u64 0] 67 rfl rfl hr2 form_size rfl (by simp [Value.oneCell']) ?_; intro w3 hp3 hb3 hz3; obtain ⟨r0, r1, r2, r3, r4, r5, r6⟩ := cells7F hp3))
    exact bodyPost_ret (v := .tuple #[.agg #[.int .i64 0, .int .i64 0, .int .i64 0, .int .i64 0, .int .u64 0, .int .u64 0, .int .u64 0], .int .i64 3]) (by simp [results, Tryz.results90, go_sem, r0, r1, r2, r3, r4, r5, r6]) rfl ⟨rfl, hB2.trans hb3⟩
  · have hof := Lib.hid fun w (hW : VaW w) => fo_of id w hW.frm (by omega) (by omega)
    have hk : (fK id == 1) = false := by
      have : id = 5 ∨ id = 6 ∨ id = 7 ∨ id = 8 ∨ id = 9 ∨ id = 10 ∨ id = 11 ∨ id = 12 ∨ id = 13 ∨ id = 14 := by omega
      rcases this with rfl | rfl | rfl | rfl | rfl | rfl | rfl | rfl | rfl | rfl <;> rfl
    go_enter Tryz.func90, Tryz.ntmps90
    go_wp2_with fail
    refine (hof.out _ hW0).mono ?_
    rintro e w1 ⟨rfl, hb⟩
    have hr1 := pBlk_st _ _ _ _ _ hr0 hb
    have hr2 := pBlk_st _ _ _ _ _ hr1 ((Below.refl w1.heap.size w1).alloc (Nat.le_refl _) (.cells #[.int .i64 (fK id), .int .i64 (fW id), .int .i64 (fM id), .int .i64 (fB id), .int .u64 (fT id), .int .u64 (fI id), .int .u64 (fN id)] 67))
    have hf2 := pBlk_made w1 #[.int .i64 (fK id), .int .i64 (fW id), .int .i64 (fM id), .int .i64 (fB id), .int .u64 (fT id), .int .u64 (fI id), .int .u64 (fN id)] 67
    have hB2 := (hb0.trans (hb.mono hb0.size)).trans (((Below.refl w1.heap.size w1).alloc (Nat.le_refl _) (.cells #[.int .i64 (fK id), .int .i64 (fW id), .int .i64 (fM id), .int .i64 (fB id), .int .u64 (fT id), .int .u64 (fI id), .int .u64 (fN id)] 67)).mono (Nat.le_trans hb0.size hb.size))
    obtain ⟨q0, q1, q2, q3, q4, q5, q6⟩ := cells7F hf2
    go_wp2_with (first | ((with_reducible show wpList _ _ _ (Oper.mk _ (Op.store 67 _ _) _ _ _ _ :: _) _ _); refine wpList_store_whole _ rfl 67 _ _ rfl w.heap.size #[.int .i64 0, .int .i64 0, .int .i64 0, .int .i64 0, .int .u64 0, .int .u64 0, .int .u64 0] #[.int .i64 0, .int .i64 0, .int .i64 0, .int .i64 0, .int .u64 0, .int .u64 0, .int .u64 0] 67 rfl rfl hr2 form_size rfl (by simp [Value.oneCell']) ?_; intro w3 hp3 hb3 hz3; obtain ⟨r0, r1, r2, r3, r4, r5, r6⟩ := cells7F hp3))
    exact bodyPost_ret (v := .tuple #[.agg #[.int .i64 0, .int .i64 0, .int .i64 0, .int .i64 0, .int .u64 0, .int .u64 0, .int .u64 0], .int .i64 3]) (by simp [results, Tryz.results90, go_sem, r0, r1, r2, r3, r4, r5, r6]) rfl ⟨rfl, hB2.trans hb3⟩
end Go.Proofs.YtobokaafmcfeaaaGreatDoor
