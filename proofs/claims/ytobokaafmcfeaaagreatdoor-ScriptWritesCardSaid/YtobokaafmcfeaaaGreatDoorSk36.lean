/- Plain: scripts that are written; a thousand operations by turns. Conditions: none. -/
/- Script: the six operations, by what becomes of a script. Conditions: the variables that values read. -/
import Derived.Test.YtobokaafmcfeaaaGreatDoorSk33
import Derived.Test.YtobokaafmcfeaaaGreatDoorSk35
namespace Go.Proofs.YtobokaafmcfeaaaGreatDoor
open Go.RowKit Go.Cal
/-- A number's bytes, the first one the highest. -/
def beB : Nat → Nat → List UInt8
  | 0, _ => []
  | k + 1, x => UInt8.ofNat (x / 256 ^ k % 256) :: beB k x
theorem beB_len : ∀ (k x : Nat), (beB k x).length = k
  | 0, _ => rfl
  | k + 1, x => by rw [beB, List.length_cons, beB_len k x]
theorem beB_at : ∀ (k x j : Nat), j < k → (beB k x)[j]? = some (UInt8.ofNat (x / 256 ^ (k - 1 - j) % 256))
  | 0, _, j, h => by omega
  | k + 1, x, 0, _ => by simp [beB]
  | k + 1, x, j + 1, h => by
    rw [beB, List.getElem?_cons_succ, beB_at k x j (by omega), show k + 1 - 1 - (j + 1) = k - 1 - j by omega]
/-- The bytes of an operation that is no load. -/
def wrB (id : Int) (op x y : Nat) : List UInt8 := UInt8.ofNat op :: if op = 1 ∨ op = 2 then beB ((fW id).toNat / 8) x ++ beB ((fW id).toNat / 8) y else []
/-- Neg and out by turns. -/
def altF (i : Nat) : UInt8 := if i % 2 = 0 then 3 else 4
theorem run_alt (id : Int) : ∀ (n d i : Nat) (O : List Nat), (runP id d 0 O ((List.range' i n).map altF)).err = (if n ≤ d then 0 else 6) ∧ (runP id d 0 O ((List.range' i n).map altF)).used = min n d ∧
    (runP id d 0 O ((List.range' i n).map altF)).X = 0 ∧ (runP id d 0 O ((List.range' i n).map altF)).O.length + i / 2 = O.length + (i + min n d) / 2
  | 0, d, i, O => by rw [List.range'_zero, List.map_nil, runP_nil]; simp
  | n + 1, 0, i, O => by rw [List.range'_succ, List.map_cons, runP]; simp
  | n + 1, d + 1, i, O => by
    rw [List.range'_succ, List.map_cons]
    by_cases hi : i % 2 = 0
    · have hs : stepP id 0 O (altF i :: (List.range' (i + 1) n).map altF) = ⟨0, 1, 0, O⟩ := by
        have e : altF i = 3 := by unfold altF; rw [if_pos hi]
        have e2 : quNg id 0 = 0 := by unfold quNg; split; · rfl
                                      · rfl
        rw [e, stepP, if_neg (by decide), if_neg (by decide), if_pos rfl, e2]
      obtain ⟨h1, h2, h3, h4⟩ := run_alt id n d (i + 1) O
      rw [runP_ok hs, List.drop_succ_cons, List.drop_zero]
      refine ⟨by rw [h1]; simp, by simp only; rw [h2]; omega, h3, ?_⟩
      simp only
      omega
    · have hs : stepP id 0 O (altF i :: (List.range' (i + 1) n).map altF) = ⟨0, 1, 0, O ++ [(quP id 0).toNat]⟩ := by
        have e : altF i = 4 := by unfold altF; rw [if_neg hi]
        rw [e, stepP, if_neg (by decide), if_neg (by decide), if_neg (by decide), if_pos rfl]
      obtain ⟨h1, h2, h3, h4⟩ := run_alt id n d (i + 1) (O ++ [(quP id 0).toNat])
      rw [runP_ok hs, List.drop_succ_cons, List.drop_zero]
      refine ⟨by rw [h1]; simp, by simp only; rw [h2]; omega, h3, ?_⟩
      simp only
      rw [List.length_append, List.length_singleton] at h4
      omega
def altB (n : Nat) : List UInt8 := (List.range n).map altF
theorem altB_succ (n : Nat) : altB (n + 1) = altB n ++ [altF n] := by simp [altB, List.range_succ]
theorem altB_len (n : Nat) : (altB n).length = n := by simp [altB]
theorem altB_run (id : Int) (n : Nat) : (runP id 1000 0 [] (altB n)).err = (if n ≤ 1000 then 0 else 6) ∧ (runP id 1000 0 [] (altB n)).used = min n 1000 ∧ (runP id 1000 0 [] (altB n)).X = 0 ∧ (runP id 1000 0 [] (altB n)).O.length = min n 1000 / 2 := by
  obtain ⟨h1, h2, h3, h4⟩ := run_alt id n 1000 0 []
  rw [← List.range_eq_range'] at h1 h2 h3 h4
  refine ⟨h1, h2, h3, ?_⟩
  simp at h4
  unfold altB
  omega
/-- What must be in any case. -/
theorem shown_run : runP 1 1000 0 [] [1, 0x40, 0x48, 4, 5, 3, 48, 46, 53, 3, 4] = ⟨0, 11, quNg 1 (ldV 1 [48, 46, 53]).2, [0x48, 0xC8]⟩ := by decide +kernel
theorem shown_run2 : runP 1 1000 0 [] [4, 9] = ⟨1, 1, 0, [0]⟩ := by decide +kernel
end Go.Proofs.YtobokaafmcfeaaaGreatDoor
namespace Go.Proofs.YtobokaafmcfeaaaGreatDoor
open Go.RowKit Go.Cal
/-- What has become of a run behind an operation: done, or thrown. -/
def DoneP (w0 : World) (base g rb bx mb n c : Nat) (id wd : Int) (B : Option Addr) (E : Nat → Array Value → TypeId → Prop) (Ov : Value) (X : Nat) (O : List Nat) (s : ScR) (p : Nat) (e : Ending) (w' : World) : Prop :=
  (s.err = 0 ∧ e = .returned (.tuple #[]) ∧ ∃ Ov', StV w0 base g rb bx mb n c id wd B E Ov' s.X s.O (p + s.used) w') ∨ (s.err ≠ 0 ∧ e = .panicked [{ v := .iface 239 (.agg #[.int .i64 (s.err : Nat)]), recovered := false }] ∧ ∃ q, StV w0 base g rb bx mb n c id wd B E Ov X O q w')
theorem posit_bytes {id : Int} (h1 : 1 ≤ id) (h4 : id ≤ 4) : 8 * ((fW id).toNat / 8) = (fW id).toNat := by
  have : id = 1 ∨ id = 2 ∨ id = 3 ∨ id = 4 := by omega
  rcases this with rfl | rfl | rfl | rfl <;> decide +kernel
section
variable {w0 w w' : World} {base g rb bx mb n c X p : Nat} {id wd : Int} {B : Option Addr} {E : Nat → Array Value → TypeId → Prop} {Ov : Value} {O : List Nat} {l r : List UInt8}
theorem one_clear (G : Geo w0 base g rb bx mb) (h : StV w0 base g rb bx mb n c id wd B E Ov X O (p + 1) w) : Calls Tryz.prog 32 #[(.pointer (some ⟨g, 0, none⟩))] w (DoneP w0 base g rb bx mb n c id wd B E Ov X O (stepP id X O (0 :: r)) p) :=
  (clear_o h.qu).mono fun _ _ ⟨he, hq, hm⟩ => .inl ⟨rfl, he, _, h.bits G hq hm⟩
theorem one_neg (G : Geo w0 base g rb bx mb) (h1 : 1 ≤ id) (h4 : id ≤ 4) (hX : X < 2 ^ quS id) (h : StV w0 base g rb bx mb n c id wd B E Ov X O (p + 1) w) : Calls Tryz.prog 35 #[(.pointer (some ⟨g, 0, none⟩))] w (DoneP w0 base g rb bx mb n c id wd B E Ov X O (stepP id X O (3 :: r)) p) :=
  (neg_o h.ob h1 h4 hX h.qu).mono fun _ _ ⟨he, hq, hm⟩ => .inl ⟨rfl, he, _, h.bits G hq hm⟩
theorem blk_back {w1 w2 : World} {k x : Nat} {cs : Array Value} {t : TypeId} (h : pBlk k cs t w2) (hm : Mut x w1 w2) (hk : k < w1.heap.size) (hne : k ≠ x) : pBlk k cs t w1 := by
  unfold pBlk at *
  rw [← hm.block k hk hne]
  exact h
theorem one_add (G : Geo w0 base g rb bx mb) (Y : Byt w0 B n c l) (hVa : VaW w0) (h1 : 1 ≤ id) (h4 : id ≤ 4) (hwd : wd = fW id) (hX : X < 2 ^ quS id) (hp : p + 1 ≤ n) (hd : l.drop (p + 1) = r) (h : StV w0 base g rb bx mb n c id wd B E Ov X O (p + 1) w) :
    Calls Tryz.prog 187 #[(.pointer (some ⟨bx, 0, none⟩))] w (DoneP w0 base g rb bx mb n c id wd B E Ov X O (stepP id X O (1 :: r)) p) := by
  obtain ⟨w1, w2, w3, w4, w5, -⟩ := fo_wide h1 (show id < 15 by omega)
  have hp8 := posit_bytes h1 h4
  obtain ⟨k, hk⟩ : ∃ k, (fW id).toNat / 8 = k := ⟨_, rfl⟩
  rw [hk] at hp8
  have hwd8 : wd = 8 * (k : Int) := by omega
  have hk8 : k ≤ 8 := by obtain ⟨-, -, -, -, s5⟩ := quS_bnd h1 h4; omega
  have hrl : r.length = n - (p + 1) := by rw [← hd, List.length_drop, Y.len]
  have hn : n ≤ maxLen := Nat.le_trans Y.cap Y.capm
  have hdr := h.go (Below.refl w.heap.size w).drew
  have hB := Y.at hdr.below
  have hBr := Y.apart G.r0
  have hQ : ∀ e w', (DoneP w0 base g rb bx mb n c id wd B E Ov X O (stepP id X O (1 :: r)) p) e w' → e = .returned (.tuple #[]) ∨ ∃ ch, e = .panicked ch := by
    rintro e w' (⟨-, rfl, -⟩ | ⟨-, rfl, -⟩)
    · exact .inl rfl
    · exact .inr ⟨_, rfl⟩
  refine do1_of h.box h.run ?_ hQ
  by_cases hs : n - (p + 1) < k + k
  · refine (two_no _ k hwd8 hk8 hs hp hn Y.cap Y.capm hdr.run Y.len hB hBr).mono ?_
    rintro e w' ⟨rfl, q, hq, hm⟩
    have he : (stepP id X O (1 :: r)).err = 2 := by
      rw [stepP, if_neg (by decide), if_pos (by decide), if_pos (by rw [hk, hrl]; exact hs)]
    exact .inr ⟨by rw [he]; decide, by rw [he]; rfl, q, hdr.at G hq hm⟩
  · refine (two_add h1 h4 hdr.ob k hwd8 hk8 (by omega) hp hn Y.cap Y.capm hdr.run Y.len hB hBr hX G.gr hdr.qu (fun W hm => hVa.below (hdr.below.trans (hm.below hdr.below.size G.r0)))).mono ?_
    rintro e w' ⟨rfl, hq, hr, w1, hm1, hm2⟩
    have hr1 := blk_back hr hm2 (Nat.lt_of_lt_of_le hdr.run.lt hm1.size) (Ne.symm G.gr)
    have hs1 := (hdr.at G hr1 hm1).bits G hq hm2
    have he : stepP id X O (1 :: r) = ⟨0, 1 + k + k, quDo id X (patN ((l.drop (p + 1)).take k) 0 : Nat) (patN ((l.drop (p + 1 + k)).take k) 0 : Nat) false, O⟩ := by
      rw [stepP, if_neg (by decide), if_pos (by decide), if_neg (by rw [hk, hrl]; exact hs), hk, ← hd, List.drop_drop]
      rfl
    refine .inl ⟨by rw [he], rfl, Ov, ?_⟩
    rw [he]
    simp only
    rw [show p + (1 + k + k) = p + 1 + k + k by omega]
    exact hs1
theorem one_sub (G : Geo w0 base g rb bx mb) (Y : Byt w0 B n c l) (hVa : VaW w0) (h1 : 1 ≤ id) (h4 : id ≤ 4) (hwd : wd = fW id) (hX : X < 2 ^ quS id) (hp : p + 1 ≤ n) (hd : l.drop (p + 1) = r) (h : StV w0 base g rb bx mb n c id wd B E Ov X O (p + 1) w) :
    Calls Tryz.prog 189 #[(.pointer (some ⟨bx, 0, none⟩))] w (DoneP w0 base g rb bx mb n c id wd B E Ov X O (stepP id X O (2 :: r)) p) := by
  obtain ⟨w1, w2, w3, w4, w5, -⟩ := fo_wide h1 (show id < 15 by omega)
  have hp8 := posit_bytes h1 h4
  obtain ⟨k, hk⟩ : ∃ k, (fW id).toNat / 8 = k := ⟨_, rfl⟩
  rw [hk] at hp8
  have hwd8 : wd = 8 * (k : Int) := by omega
  have hk8 : k ≤ 8 := by obtain ⟨-, -, -, -, s5⟩ := quS_bnd h1 h4; omega
  have hrl : r.length = n - (p + 1) := by rw [← hd, List.length_drop, Y.len]
  have hn : n ≤ maxLen := Nat.le_trans Y.cap Y.capm
  have hdr := h.go (Below.refl w.heap.size w).drew
  have hB := Y.at hdr.below
  have hBr := Y.apart G.r0
  have hQ : ∀ e w', (DoneP w0 base g rb bx mb n c id wd B E Ov X O (stepP id X O (2 :: r)) p) e w' → e = .returned (.tuple #[]) ∨ ∃ ch, e = .panicked ch := by
    rintro e w' (⟨-, rfl, -⟩ | ⟨-, rfl, -⟩)
    · exact .inl rfl
    · exact .inr ⟨_, rfl⟩
  refine do2_of h.box h.run ?_ hQ
  by_cases hs : n - (p + 1) < k + k
  · refine (two_no _ k hwd8 hk8 hs hp hn Y.cap Y.capm hdr.run Y.len hB hBr).mono ?_
    rintro e w' ⟨rfl, q, hq, hm⟩
    have he : (stepP id X O (2 :: r)).err = 2 := by
      rw [stepP, if_neg (by decide), if_pos (by decide), if_pos (by rw [hk, hrl]; exact hs)]
    exact .inr ⟨by rw [he]; decide, by rw [he]; rfl, q, hdr.at G hq hm⟩
  · refine (two_sub h1 h4 hdr.ob k hwd8 hk8 (by omega) hp hn Y.cap Y.capm hdr.run Y.len hB hBr hX G.gr hdr.qu (fun W hm => hVa.below (hdr.below.trans (hm.below hdr.below.size G.r0)))).mono ?_
    rintro e w' ⟨rfl, hq, hr, w1, hm1, hm2⟩
    have hr1 := blk_back hr hm2 (Nat.lt_of_lt_of_le hdr.run.lt hm1.size) (Ne.symm G.gr)
    have hs1 := (hdr.at G hr1 hm1).bits G hq hm2
    have he : stepP id X O (2 :: r) = ⟨0, 1 + k + k, quDo id X (patN ((l.drop (p + 1)).take k) 0 : Nat) (patN ((l.drop (p + 1 + k)).take k) 0 : Nat) true, O⟩ := by
      rw [stepP, if_neg (by decide), if_pos (by decide), if_neg (by rw [hk, hrl]; exact hs), hk, ← hd, List.drop_drop]
      rfl
    refine .inl ⟨by rw [he], rfl, Ov, ?_⟩
    rw [he]
    simp only
    rw [show p + (1 + k + k) = p + 1 + k + k by omega]
    exact hs1
theorem one_load (G : Geo w0 base g rb bx mb) (Y : Byt w0 B n c l) (h1 : 1 ≤ id) (h4 : id ≤ 4) (hp : p + 1 ≤ n) (hd : l.drop (p + 1) = r) (h : StV w0 base g rb bx mb n c id wd B E Ov X O (p + 1) w) :
    Calls Tryz.prog 191 #[(.pointer (some ⟨rb, 0, none⟩))] w (DoneP w0 base g rb bx mb n c id wd B E Ov X O (stepP id X O (5 :: r)) p) := by
  have hst : stepP id X O (5 :: r) = ldS id X O r := by
    rw [stepP, if_neg (by decide), if_neg (by decide), if_neg (by decide), if_neg (by decide), if_pos rfl]
  rw [hst]
  cases r with
  | nil =>
    have hn : n - (p + 1) < 1 := by
      have := congrArg List.length hd
      rw [List.length_drop, Y.len, List.length_nil] at this
      omega
    exact (loadf_none Y h hn hp).mono fun _ _ ⟨he, h'⟩ => .inr ⟨by simp [ldS], he, _, h'⟩
  | cons m s =>
    by_cases hs : s.length < m.toNat
    · refine (loadf_short G Y h hd hs).mono fun _ _ ⟨he, h'⟩ => .inr ?_
      rw [ldS, if_pos hs]
      exact ⟨(by decide : (2 : Nat) ≠ 0), he, _, h'⟩
    · have hs' : m.toNat ≤ s.length := by omega
      have hld : ldS id X O (m :: s) = if (ldV id (s.take m.toNat)).1 = 0 then ⟨0, 2 + m.toNat, (ldV id (s.take m.toNat)).2, O⟩ else ⟨(ldV id (s.take m.toNat)).1, 0, X, O⟩ := by rw [ldS, if_neg hs]
      cases ht : (textS (s.take m.toNat)).1 with
      | false =>
        have hv : ldV id (s.take m.toNat) = (2, 0) := by unfold ldV; rw [if_pos ht]
        rw [hv] at hld
        refine (loadf_text G Y h hd hs' ht).mono fun _ _ ⟨he, h'⟩ => .inr ?_
        rw [hld]
        exact ⟨(by decide : (2 : Nat) ≠ 0), he, _, h'⟩
      | true =>
        have hv0 : ldV id (s.take m.toNat) = if (textV 1125899906842624 (s.take m.toNat)).kind = 4 then (0, quN id) else if (textV 1125899906842624 (s.take m.toNat)).kind = 1 ∧ (textV 1125899906842624 (s.take m.toNat)).big = 0 then
            match ldN id (textV 1125899906842624 (s.take m.toNat)).neg (textV 1125899906842624 (s.take m.toNat)).d (textV 1125899906842624 (s.take m.toNat)).k with
            | some n => (0, n)
            | none => (8, 0)
          else (8, 0) := by unfold ldV; rw [if_neg (by rw [ht]; decide)]; rfl
        obtain ⟨it, hit⟩ : ∃ it, textV 1125899906842624 (s.take m.toNat) = it := ⟨_, rfl⟩
        rw [hit] at hv0
        by_cases k4 : it.kind = 4
        · rw [if_pos k4] at hv0
          rw [hv0] at hld
          refine (loadf_nar h1 h4 G Y h hd hs' ht it hit (by omega)).mono fun _ _ ⟨he, h'⟩ => .inl ?_
          rw [hld]
          refine ⟨rfl, he, Ov, ?_⟩
          rw [if_pos rfl, show p + (2 + m.toNat) = p + 1 + 1 + m.toNat by omega]
          exact h'
        · rw [if_neg k4] at hv0
          by_cases k1 : it.kind = 1 ∧ it.big = 0
          · rw [if_pos k1] at hv0
            refine (loadf_num h1 h4 G Y h hd hs' ht it hit (by omega) k1.2).mono ?_
            rintro e w' (⟨M, hM, rfl, h'⟩ | ⟨hM, rfl, h'⟩)
            · rw [hM] at hv0
              simp only at hv0
              rw [hv0] at hld
              rw [hld]
              refine .inl ⟨rfl, rfl, Ov, ?_⟩
              rw [if_pos rfl, show p + (2 + m.toNat) = p + 1 + 1 + m.toNat by omega]
              exact h'
            · rw [hM] at hv0
              simp only at hv0
              rw [hv0] at hld
              rw [hld]
              exact .inr ⟨(by decide : (8 : Nat) ≠ 0), rfl, _, h'⟩
          · rw [if_neg k1] at hv0
            rw [hv0] at hld
            have hk2 : ((it.kind : Int) == 1) = false ∨ ((it.kind : Int) == 1) = true ∧ (it.big == 0) = false := by
              by_cases e : it.kind = 1
              · exact .inr ⟨by rw [e]; rfl, by rw [beq_eq_false_iff_ne]; exact fun h0 => k1 ⟨e, h0⟩⟩
              · exact .inl (by rw [beq_eq_false_iff_ne]; omega)
            refine (loadf_word G Y h hd hs' ht it hit (by rw [beq_eq_false_iff_ne]; omega) hk2).mono fun _ _ ⟨he, h'⟩ => .inr ?_
            rw [hld]
            exact ⟨(by decide : (8 : Nat) ≠ 0), he, _, h'⟩
theorem quP_nat (h1 : 1 ≤ id) (h4 : id ≤ 4) : 0 ≤ quP id X := by
  unfold quP
  split
  · have : id = 1 ∨ id = 2 ∨ id = 3 ∨ id = 4 := by omega
    rcases this with rfl | rfl | rfl | rfl <;> decide +kernel
  · exact round_nat (by unfold roundE; rw [if_neg (by omega), if_neg (by omega)])
theorem keepO2 (hS : (bx < (w).heap.size ∧ rb < (w).heap.size ∧ (w).cell? ⟨bx, 0, none⟩ = some (.pointer (some ⟨rb, 0, none⟩)) ∧ (w).cell? ⟨rb, 0, none⟩ = some (.pointer (some ⟨g, 0, none⟩)))) (h1 : w'.heap[bx]? = w.heap[bx]?) (h2 : w'.heap[rb]? = w.heap[rb]?) (hs : w.heap.size ≤ w'.heap.size) : (bx < (w').heap.size ∧ rb < (w').heap.size ∧ (w').cell? ⟨bx, 0, none⟩ = some (.pointer (some ⟨rb, 0, none⟩)) ∧ (w').cell? ⟨rb, 0, none⟩ = some (.pointer (some ⟨g, 0, none⟩))) := by
  obtain ⟨a0, a1, a2, a3⟩ := hS
  exact ⟨by omega, by omega, (World.cell?_of_block (a := ⟨bx, 0, none⟩) h1).trans a2, (World.cell?_of_block (a := ⟨rb, 0, none⟩) h2).trans a3⟩
theorem after_app {A' : Option Addr} {n' c' y : Nat} {w4 w5 : World} (G : Geo w0 base g rb bx mb) (hb0 : w0.heap.size ≤ base) (h4 : StV w0 base g rb bx mb n c id wd B E Ov X O p w4)
    (ho : w5.ownsRow base 22 1 (.slice A' n' c') (O.length + 1) (lU (O ++ [y]))) (hg : (w4.alloc (.cells #[.int .u64 (y : Nat)] 22)).grownBy w5 Ov.ownBlock)
    (hpl : (Value.slice A' n' c').ownBlock = Ov.ownBlock ∨ ∀ b, (Value.slice A' n' c').ownBlock = some b → (w4.alloc (.cells #[.int .u64 (y : Nat)] 22)).heap.size ≤ b) :
    (bx < (w5).heap.size ∧ rb < (w5).heap.size ∧ (w5).cell? ⟨bx, 0, none⟩ = some (.pointer (some ⟨rb, 0, none⟩)) ∧ (w5).cell? ⟨rb, 0, none⟩ = some (.pointer (some ⟨g, 0, none⟩))) ∧ w5.cell? ⟨rb, 4, none⟩ = some Ov ∧ w5.frozen? ⟨rb, 4, none⟩ = false ∧ (bx < ((w5.setCell ⟨rb, 4, none⟩ (.slice A' n' c'))).heap.size ∧ rb < ((w5.setCell ⟨rb, 4, none⟩ (.slice A' n' c'))).heap.size ∧ ((w5.setCell ⟨rb, 4, none⟩ (.slice A' n' c'))).cell? ⟨bx, 0, none⟩ = some (.pointer (some ⟨rb, 0, none⟩)) ∧ ((w5.setCell ⟨rb, 4, none⟩ (.slice A' n' c'))).cell? ⟨rb, 0, none⟩ = some (.pointer (some ⟨g, 0, none⟩))) ∧ StV w0 base g rb bx mb n c id wd B E (.slice A' n' c') X (O ++ [y]) p (w5.setCell ⟨rb, 4, none⟩ (.slice A' n' c')) := by
  have h5 := h4.go ((Below.refl w4.heap.size w4).alloc (Nat.le_refl _) (.cells #[.int .u64 (y : Nat)] 22))
  have hne : ∀ k, k < base → k < (w4.alloc (.cells #[.int .u64 (y : Nat)] 22)).heap.size → w5.heap[k]? = (w4.alloc (.cells #[.int .u64 (y : Nat)] 22)).heap[k]? := fun k hk hkw => hg.block k hkw (fun e => by
    have := (h5.row.lt k e.symm).1
    omega)
  have hrb := hne rb G.r1 h5.run.lt
  have hbx := hne bx G.b1 h5.box.lt
  have hr : pBlk rb #[(.pointer (some ⟨g, 0, none⟩)), .int .i64 wd, .slice B n c, .int .i64 (p : Nat), Ov] 141 w5 := by
    have := h5.run
    unfold pBlk at this ⊢
    rw [hrb]; exact this
  have hS5 : (bx < (w5).heap.size ∧ rb < (w5).heap.size ∧ (w5).cell? ⟨bx, 0, none⟩ = some (.pointer (some ⟨rb, 0, none⟩)) ∧ (w5).cell? ⟨rb, 0, none⟩ = some (.pointer (some ⟨g, 0, none⟩))) := keepO2 ⟨h5.box.lt, h5.run.lt, h5.box.cell 0 _ rfl, h5.run.cell 0 _ rfl⟩ hbx hrb hg.size
  have hfin := StV.app G h5 hb0 ho hg hpl hr
  exact ⟨hS5, hr.cell 4 _ rfl, hr.free 4, ⟨hfin.box.lt, hfin.run.lt, hfin.box.cell 0 _ rfl, hfin.run.cell 0 _ rfl⟩, hfin⟩
set_option maxRecDepth 100000 in
set_option maxHeartbeats 4000000 in
theorem one_out (G : Geo w0 base g rb bx mb) (hb0 : w0.heap.size ≤ base) (hVa : VaW w0) (h1 : 1 ≤ id) (h4 : id ≤ 4) (hX : X < 2 ^ quS id) (hO : O.length ≤ 1000) (h : StV w0 base g rb bx mb n c id wd B E Ov X O (p + 1) w) :
    Calls Tryz.prog 190 #[(.pointer (some ⟨bx, 0, none⟩))] w (DoneP w0 base g rb bx mb n c id wd B E Ov X O (stepP id X O (4 :: r)) p) := by
  have hst : stepP id X O (4 :: r) = ⟨0, 1, X, O ++ [(quP id X).toNat]⟩ := by
    rw [stepP, if_neg (by decide), if_neg (by decide), if_neg (by decide), if_pos rfl]
  rw [hst]
  have q0 := quP_nat (X := X) h1 h4
  have hps := Lib.hid fun (W : World) (hS : StV w0 base g rb bx mb n c id wd B E Ov X O (p + 1) W) => posit_o h1 h4 hX (hVa.below hS.below) hS.qu
  obtain ⟨y, hy⟩ : ∃ y : Nat, quP id X = (y : Int) := ⟨(quP id X).toNat, by omega⟩
  rw [hy] at hps ⊢
  rw [Int.toNat_natCast]
  have hS0 : (bx < (w.drew).heap.size ∧ rb < (w.drew).heap.size ∧ (w.drew).cell? ⟨bx, 0, none⟩ = some (.pointer (some ⟨rb, 0, none⟩)) ∧ (w.drew).cell? ⟨rb, 0, none⟩ = some (.pointer (some ⟨g, 0, none⟩))) := ⟨h.box.lt, h.run.lt, h.box.cell 0 _ rfl, h.run.cell 0 _ rfl⟩
  have b0 := h.box.cell 0 _ rfl
  have c0 := h.run.cell 0 _ rfl
  have c4 := h.run.cell 4 _ rfl
  have hrl := h.run.lt
  have hbl := h.box.lt
  have hdr := Lib.hid (h.go (Below.refl w.heap.size w).drew)
  have hrow := h.row
  have f4 := h.run.free 4
  have hwb := h.bs
  have happ := Lib.hid fun (w4 w5 : World) (A' : Option Addr) (n' c' : Nat) (hb4 : Below w.drew.heap.size w.drew w4) (ho : w5.ownsRow base 22 1 (.slice A' n' c') (O.length + 1) (lU (O ++ [y]))) (hg : (w4.alloc (.cells #[.int .u64 (y : Nat)] 22)).grownBy w5 Ov.ownBlock)
      (hpl : (Value.slice A' n' c').ownBlock = Ov.ownBlock ∨ ∀ b, (Value.slice A' n' c').ownBlock = some b → (w4.alloc (.cells #[.int .u64 (y : Nat)] 22)).heap.size ≤ b) => after_app G hb0 (hdr.out.go hb4) ho hg hpl
  clear hX hy q0 hst
  go_enter Tryz.func190, Tryz.ntmps190
  go_wp2_with fail
  refine wp_region_held_drew (S := fun W => (bx < (W).heap.size ∧ rb < (W).heap.size ∧ (W).cell? ⟨bx, 0, none⟩ = some (.pointer (some ⟨rb, 0, none⟩)) ∧ (W).cell? ⟨rb, 0, none⟩ = some (.pointer (some ⟨g, 0, none⟩)))) (by kernel_rfl) hS0 (fun hS => ?_)
  (refine wpAnyH_take (i := 0) (v := ?_) rfl (by kernel_rfl) (by kernel_rfl) (by kernel_rfl) (fun _ _ _ h => h) (Or.inl ⟨by rfl, ?_⟩) hS ?_; rotate_left; (focus ((intro W9 hSW; obtain ⟨hs1, hs2, hs3, hs4⟩ := hSW; go_simp) <;> with_reducible rfl)))
  (refine wpAnyH_take (i := 1) (v := ?_) rfl (by kernel_rfl) (by kernel_rfl) (by kernel_rfl) (fun _ _ _ h => h) (Or.inl ⟨by rfl, ?_⟩) hS ?_; rotate_left; (focus ((intro W9 hSW; obtain ⟨hs1, hs2, hs3, hs4⟩ := hSW; go_simp) <;> with_reducible rfl)))
  (refine wpAnyH_take (i := 2) (v := ?_) rfl (by kernel_rfl) (by kernel_rfl) (by kernel_rfl) (fun _ _ _ h => h) (Or.inl ⟨by rfl, ?_⟩) hS ?_; rotate_left; (focus ((intro W9 hSW; obtain ⟨hs1, hs2, hs3, hs4⟩ := hSW; go_simp) <;> with_reducible rfl)))
  (refine wpAnyH_take (i := 3) (v := ?_) rfl (by kernel_rfl) (by kernel_rfl) (by kernel_rfl) (fun _ _ _ h => h) (Or.inl ⟨by rfl, ?_⟩) hS ?_; rotate_left; (focus ((intro W9 hSW; obtain ⟨hs1, hs2, hs3, hs4⟩ := hSW; go_simp) <;> with_reducible rfl)))
  (refine wpAnyH_take (i := 5) (v := ?_) rfl (by kernel_rfl) (by kernel_rfl) (by kernel_rfl) (fun _ _ _ h => h) (Or.inl ⟨by rfl, ?_⟩) hS ?_; rotate_left; (focus ((intro W9 hSW; obtain ⟨hs1, hs2, hs3, hs4⟩ := hSW; go_simp) <;> with_reducible rfl)))
  (refine wpAnyH_take (i := 6) (v := ?_) rfl (by kernel_rfl) (by kernel_rfl) (by kernel_rfl) (fun _ _ _ h => h) (Or.inl ⟨by rfl, ?_⟩) hS ?_; rotate_left; (focus ((intro W9 hSW; obtain ⟨hs1, hs2, hs3, hs4⟩ := hSW; go_simp) <;> with_reducible rfl)))
  (refine wpAnyH_take (i := 7) (v := ?_) rfl (by kernel_rfl) (by kernel_rfl) (by kernel_rfl) (fun _ _ _ h => h) (Or.inl ⟨by rfl, ?_⟩) hS ?_; rotate_left; (focus ((intro W9 hSW; obtain ⟨hs1, hs2, hs3, hs4⟩ := hSW; go_simp) <;> with_reducible rfl)))
  (refine wpAnyH_take (i := 8) (v := ?_) rfl (by kernel_rfl) (by kernel_rfl) (by kernel_rfl) (fun _ _ _ h => h) (Or.inl ⟨by rfl, ?_⟩) hS ?_; rotate_left; (focus ((intro W9 hSW; obtain ⟨hs1, hs2, hs3, hs4⟩ := hSW; go_simp) <;> with_reducible rfl)))
  refine wpAnyH_ready (rs := [4, 9]) (by kernel_rfl) (by simp) ?_
  refine AllReadyH.cons rfl (fun K hK => ?_) (AllReadyH.cons rfl (fun K hK => ?_) AllReadyH.nil)
  · go_simp
    refine hK.out _ _ hS (fun hS => ?_)
    (refine wpAnyH_ready (rs := [9]) (by kernel_rfl) (by simp) ?_; refine AllReadyH.cons rfl (fun K hK => ?_) AllReadyH.nil)
    (go_simp; go_at_call 36; refine Calls.mono (hps.out _ hdr.out) ?_; rintro e w4 ⟨rfl, hb4⟩)
    refine hK.out _ _ (keepO hS0 hb4) (fun hS => ?_)
    (refine wpAnyH_ready (rs := [10]) (by kernel_rfl) (by simp) ?_; refine AllReadyH.cons rfl (fun K hK => ?_) AllReadyH.nil)
    go_simp
    refine hK.out _ _ (keepO hS ((Below.refl _ _).alloc (Nat.le_refl _) _)) (fun hS => ?_)
    all_goals
      (refine wpAnyH_ready (rs := [11]) (by kernel_rfl) (by simp) ?_; refine AllReadyH.cons rfl (fun K hK => ?_) AllReadyH.nil)
      have hrow4 := ((hdr.out.go hb4).go ((Below.refl w4.heap.size w4).alloc (Nat.le_refl _) (.cells #[.int .u64 (y : Nat)] 22)))
      refine step_app_own rfl (.tmp 5) (.tmp 11) rfl rfl rfl hrow4.row ((pBlk_made w4 #[.int .u64 (y : Nat)] 22).cell 0 _ rfl) (by omega) hrow4.bs ?_
      intro A' n' c' w5 ho hg hpl
      obtain ⟨hS5, d4, e4, hS6, hfin⟩ := happ.out w4 w5 A' n' c' hb4 ho hg hpl
      have hl5 := hS5.2.1
      clear hrow4 ho hg hpl
      refine hK.out _ _ hS5 (fun hS => ?_)
      (refine wpAnyH_take (i := 12) (v := ?_) rfl (by kernel_rfl) (by kernel_rfl) (by kernel_rfl) (fun _ _ _ h => h) (Or.inl ⟨by rfl, ?_⟩) hS ?_; rotate_left; (focus ((intro W9 hSW; obtain ⟨hs1, hs2, hs3, hs4⟩ := hSW; go_simp) <;> with_reducible rfl)))
      (refine wpAnyH_take (i := 13) (v := ?_) rfl (by kernel_rfl) (by kernel_rfl) (by kernel_rfl) (fun _ _ _ h => h) (Or.inl ⟨by rfl, ?_⟩) hS ?_; rotate_left; (focus ((intro W9 hSW; obtain ⟨hs1, hs2, hs3, hs4⟩ := hSW; go_simp) <;> with_reducible rfl)))
      (refine wpAnyH_ready (rs := [14]) (by kernel_rfl) (by simp) ?_; refine AllReadyH.cons rfl (fun K hK => ?_) AllReadyH.nil)
      go_simp
      refine hK.out _ _ hS6 (fun _ => ?_)
      refine wpAnyH_done (by kernel_rfl) ?_ _
      go_wp2
      exact ⟨rfl, .tuple #[], by simp [results, Tryz.results190, go_sem], .inl ⟨rfl, rfl, _, hfin⟩⟩
  · (go_simp; go_at_call 36; refine Calls.mono (hps.out _ hdr.out) ?_; rintro e w4 ⟨rfl, hb4⟩)
    refine hK.out _ _ (keepO hS0 hb4) (fun hS => ?_)
    refine wpAnyH_ready (rs := [4, 10]) (by kernel_rfl) (by simp) ?_
    refine AllReadyH.cons rfl (fun K hK => ?_) (AllReadyH.cons rfl (fun K hK => ?_) AllReadyH.nil)
    · have k4 := (hb4.cell (p := ⟨rb, 4, none⟩) hrl).trans c4
      go_simp
      refine hK.out _ _ hS (fun hS => ?_)
      (refine wpAnyH_ready (rs := [10]) (by kernel_rfl) (by simp) ?_; refine AllReadyH.cons rfl (fun K hK => ?_) AllReadyH.nil)
      go_simp
      refine hK.out _ _ (keepO hS ((Below.refl _ _).alloc (Nat.le_refl _) _)) (fun hS => ?_)
      (refine wpAnyH_ready (rs := [11]) (by kernel_rfl) (by simp) ?_; refine AllReadyH.cons rfl (fun K hK => ?_) AllReadyH.nil)
      have hrow4 := ((hdr.out.go hb4).go ((Below.refl w4.heap.size w4).alloc (Nat.le_refl _) (.cells #[.int .u64 (y : Nat)] 22)))
      refine step_app_own rfl (.tmp 5) (.tmp 11) rfl rfl rfl hrow4.row ((pBlk_made w4 #[.int .u64 (y : Nat)] 22).cell 0 _ rfl) (by omega) hrow4.bs ?_
      intro A' n' c' w5 ho hg hpl
      obtain ⟨hS5, d4, e4, hS6, hfin⟩ := happ.out w4 w5 A' n' c' hb4 ho hg hpl
      have hl5 := hS5.2.1
      clear hrow4 ho hg hpl
      refine hK.out _ _ hS5 (fun hS => ?_)
      (refine wpAnyH_take (i := 12) (v := ?_) rfl (by kernel_rfl) (by kernel_rfl) (by kernel_rfl) (fun _ _ _ h => h) (Or.inl ⟨by rfl, ?_⟩) hS ?_; rotate_left; (focus ((intro W9 hSW; obtain ⟨hs1, hs2, hs3, hs4⟩ := hSW; go_simp) <;> with_reducible rfl)))
      (refine wpAnyH_take (i := 13) (v := ?_) rfl (by kernel_rfl) (by kernel_rfl) (by kernel_rfl) (fun _ _ _ h => h) (Or.inl ⟨by rfl, ?_⟩) hS ?_; rotate_left; (focus ((intro W9 hSW; obtain ⟨hs1, hs2, hs3, hs4⟩ := hSW; go_simp) <;> with_reducible rfl)))
      (refine wpAnyH_ready (rs := [14]) (by kernel_rfl) (by simp) ?_; refine AllReadyH.cons rfl (fun K hK => ?_) AllReadyH.nil)
      go_simp
      refine hK.out _ _ hS6 (fun _ => ?_)
      refine wpAnyH_done (by kernel_rfl) ?_ _
      go_wp2
      exact ⟨rfl, .tuple #[], by simp [results, Tryz.results190, go_sem], .inl ⟨rfl, rfl, _, hfin⟩⟩
    · go_simp
      refine hK.out _ _ (keepO hS ((Below.refl _ _).alloc (Nat.le_refl _) _)) (fun hS => ?_)
      have k4 := (hb4.cell (p := ⟨rb, 4, none⟩) hrl).trans c4
      have k5 : rb < w4.heap.size := Nat.lt_of_lt_of_le hrl hb4.size
      (refine wpAnyH_ready (rs := [4]) (by kernel_rfl) (by simp) ?_; refine AllReadyH.cons rfl (fun K hK => ?_) AllReadyH.nil)
      go_simp
      refine hK.out _ _ hS (fun hS => ?_)
      (refine wpAnyH_ready (rs := [11]) (by kernel_rfl) (by simp) ?_; refine AllReadyH.cons rfl (fun K hK => ?_) AllReadyH.nil)
      have hrow4 := ((hdr.out.go hb4).go ((Below.refl w4.heap.size w4).alloc (Nat.le_refl _) (.cells #[.int .u64 (y : Nat)] 22)))
      refine step_app_own rfl (.tmp 5) (.tmp 11) rfl rfl rfl hrow4.row ((pBlk_made w4 #[.int .u64 (y : Nat)] 22).cell 0 _ rfl) (by omega) hrow4.bs ?_
      intro A' n' c' w5 ho hg hpl
      obtain ⟨hS5, d4, e4, hS6, hfin⟩ := happ.out w4 w5 A' n' c' hb4 ho hg hpl
      have hl5 := hS5.2.1
      clear hrow4 ho hg hpl
      refine hK.out _ _ hS5 (fun hS => ?_)
      (refine wpAnyH_take (i := 12) (v := ?_) rfl (by kernel_rfl) (by kernel_rfl) (by kernel_rfl) (fun _ _ _ h => h) (Or.inl ⟨by rfl, ?_⟩) hS ?_; rotate_left; (focus ((intro W9 hSW; obtain ⟨hs1, hs2, hs3, hs4⟩ := hSW; go_simp) <;> with_reducible rfl)))
      (refine wpAnyH_take (i := 13) (v := ?_) rfl (by kernel_rfl) (by kernel_rfl) (by kernel_rfl) (fun _ _ _ h => h) (Or.inl ⟨by rfl, ?_⟩) hS ?_; rotate_left; (focus ((intro W9 hSW; obtain ⟨hs1, hs2, hs3, hs4⟩ := hSW; go_simp) <;> with_reducible rfl)))
      (refine wpAnyH_ready (rs := [14]) (by kernel_rfl) (by simp) ?_; refine AllReadyH.cons rfl (fun K hK => ?_) AllReadyH.nil)
      go_simp
      refine hK.out _ _ hS6 (fun _ => ?_)
      refine wpAnyH_done (by kernel_rfl) ?_ _
      go_wp2
      exact ⟨rfl, .tuple #[], by simp [results, Tryz.results190, go_sem], .inl ⟨rfl, rfl, _, hfin⟩⟩
end
end Go.Proofs.YtobokaafmcfeaaaGreatDoor
