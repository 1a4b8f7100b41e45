/- Scan, fourth part: texts. Conditions: a text's reach. -/
/- The laws of Scan, small steps: what a text is; are two items the same. Conditions: a text's reach. -/
/- The laws of Scan: what must be in any case. Condition: the table of powers reads as it is laid. -/
/- Bytes put behind bytes: append, onto a slice that the walk has made. Conditions: the length's reach. -/
/- Exact numbers: Right, Dec, size, scaled, walked. Conditions: none. -/
import Derived.Test.YtdlkfnkmdlcekaaGreatDoorTp15
import Derived.Test.YtdlkfnkmdlcekaaGreatDoorTp14
import Derived.Lib.SlBytesRow
import Derived.Laws.IdiomStrings
import Derived.Lib.SlBytesConst
import Derived.Lib.AppendStr
import Derived.Lib.SlBuf
import Derived.ArgAppend
import Derived.Test.YtdlkfnkmdlcekaaGreatDoorTp02
import Derived.Test.YtdlkfnkmdlcekaaGreatDoorTp01
namespace Go.Proofs.YtdlkfnkmdlcekaaGreatDoor
open Go.RowKit Go.Cal
theorem sunder_bytes : Tryz.prog.underlying 66 = some (.slice 5) := by kernel_rfl
theorem sunder_byte : Tryz.prog.underlying 5 = some (.int .u8) := by kernel_rfl
theorem sunder_str : Tryz.prog.underlying 9 = some .string := by kernel_rfl
/-- The slice at A reads as the bytes l; it lies below block B. -/
structure RdB (w : World) (B : Nat) (A : Option Addr) (l : List UInt8) : Prop where
  place : l = [] ∨ ∃ b off, A = some ⟨b, off, none⟩ ∧ b < B
  cells : ∀ b off, A = some ⟨b, off, none⟩ → ∀ i, i < l.length → w.cell? ⟨b, off + i, none⟩ = some (.int .u8 (((l.getD i 0).toNat : Nat) : Int))
theorem RdB.keep {w w' : World} {B : Nat} {A : Option Addr} {l : List UInt8} (h : RdB w B A l) (hk : ∀ b o, b < B → w'.cell? ⟨b, o, none⟩ = w.cell? ⟨b, o, none⟩) : RdB w' B A l := by
  rcases h.place with rfl | ⟨b, off, e, hb⟩
  · exact ⟨.inl rfl, fun _ _ _ i hi => by simp at hi⟩
  · refine ⟨.inr ⟨b, off, e, hb⟩, fun b' off' e' i hi => ?_⟩
    rw [e] at e'
    injection e' with e'
    injection e' with e1 e2
    subst e1; subst e2
    rw [hk _ _ hb]
    exact h.cells _ _ e i hi
theorem RdB.below {w w' : World} {B : Nat} {A : Option Addr} {l : List UInt8} (h : RdB w B A l) (hb : Below B w w') : RdB w' B A l := h.keep fun b o hp => hb.cell (p := ⟨b, o, none⟩) hp
theorem conv_bytes {w : World} {B : Nat} {A : Option Addr} {l : List UInt8} (c : Nat) (h : RdB w B A l) : (convert 66 9 (.slice A l.length c)).run Tryz.prog w = .ok (.string (strL l)) w := by
  cases A with
  | none =>
    rcases h.place with rfl | ⟨b, off, e, _⟩
    · exact run_convert_bytes_nil (P := Tryz.prog) w 66 5 sunder_bytes sunder_byte _ _ 9 sunder_str
    · cases e
  | some a =>
    refine run_convert_bytes_back (P := Tryz.prog) w 66 9 5 a c l sunder_bytes sunder_byte sunder_str (fun j hj => ?_)
    rcases h.place with rfl | ⟨b, off, e, _⟩
    · simp at hj
    · injection e with e
      subst e
      rw [Lib.add_plain, h.cells b off rfl j hj]
      simp [List.getD_eq_getElem?_getD, hj]
def itemNo : Value := .agg #[.int .i64 0, .bool false, .slice none 0 0, .int .i64 0, .int .i64 0, .bool false]
/-- What Scan tells. -/
def ScanOut (w : World) (l : List UInt8) (e : Ending) (w' : World) : Prop :=
  (((textS l).1 = true ∧ ∃ v, e = .returned (.tuple #[v, .int .i64 0, .int .i64 0]) ∧ pItemN w.heap.size v (textV 1125899906842624 l) w') ∨ ((textS l).1 = false ∧ e = .returned (.tuple #[itemNo, .int .i64 ((textS l).2 : Nat), .int .i64 2]))) ∧ Below w.heap.size w w'
/-- A text, by its sign. -/
theorem text_parts (l : List UInt8) : ∃ (neg : Bool) (f : Nat), Lib.hasPrefix l [45] = neg ∧ f = (if neg then 1 else 0) ∧ f ≤ l.length ∧ (textS l).1 = (bodyS (l.drop f)).1 ∧ (textS l).2 = f + (bodyS (l.drop f)).2 ∧ textV 1125899906842624 l = bodyV 1125899906842624 neg (l.drop f) := by
  match l with
  | [] => exact ⟨false, 0, rfl, rfl, Nat.le_refl _, rfl, by simp [textS], rfl⟩
  | c :: t =>
    by_cases h : c = 45
    · subst h
      exact ⟨true, 1, by simp [Lib.hasPrefix], rfl, by simp, rfl, by show _ + 1 = 1 + _; rw [Nat.add_comm]; rfl, rfl⟩
    · refine ⟨false, 0, by show ((45 : UInt8) == c && List.isPrefixOf [] t) = false; rw [beq_eq_false_iff_ne.2 (Ne.symm h)]; rfl, rfl, by simp, ?_, ?_, ?_⟩
      · unfold textS
        split
        · rename_i e; injection e with e1 e2; exact absurd e1 h
        · rfl
      · unfold textS
        split
        · rename_i e; injection e with e1 e2; exact absurd e1 h
        · simp
      · unfold textV
        split
        · rename_i e; injection e with e1 e2; exact absurd e1 h
        · rfl
theorem prefix_any (l : List UInt8) (w : World) (n : Bool) (hn : Lib.hasPrefix l [45] = n) : Calls Tryz.prog 61 #[.string (strL l), .string ⟨#[45]⟩] w fun e w' => e = .returned (.bool n) ∧ w = w' := by
  subst hn
  refine (Tryz.strings_HasPrefix (strL l) ⟨#[45]⟩ w).mono ?_
  rintro e w' ⟨rfl, rfl⟩
  exact ⟨rfl, rfl⟩
set_option maxRecDepth 100000 in
set_option maxHeartbeats 2000000 in
theorem scan_any {A : Option Addr} (l : List UInt8) (c : Nat) (w : World) (h : RdB w w.heap.size A l) (hl : l.length ≤ 1099511627776) : Calls Tryz.prog 31 #[.slice A l.length c] w (ScanOut w l) := by
  obtain ⟨neg, f, hneg, hf, hfl, hS1, hS2, hV⟩ := text_parts l
  have hcv := conv_bytes c (h.below ((Below.refl _ _).alloc (Nat.le_refl _) (.cells #[.int .i64 0, .bool false, .slice none 0 0, .int .i64 0, .int .i64 0, .bool false] 63)))
  have hpx := fun w => prefix_any l w neg hneg
  have hwd := fun w => sword_any l (by unfold maxLen; omega) f hfl w
  have hnm := fun w => snum_any l (by unfold maxLen; omega) f hfl w
  obtain ⟨t, ht⟩ : ∃ t, l.drop f = t := ⟨_, rfl⟩
  have htl : t.length ≤ l.length := by rw [← ht, List.length_drop]; omega
  rw [ht] at hS1 hS2 hV hwd hnm
  have hfi : (f : Int) = if neg then 1 else 0 := by rw [hf]; split <;> rfl
  replace hpx := Lib.hid hpx
  replace hwd := Lib.hid hwd
  replace hnm := Lib.hid hnm
  replace hS1 := Lib.hid hS1
  replace hS2 := Lib.hid hS2
  replace hV := Lib.hid hV
  replace ht := Lib.hid ht
  replace hf := Lib.hid hf
  replace hneg := Lib.hid hneg
  have hbw0 : Below w.heap.size w (w.alloc (.cells #[.int .i64 0, .bool false, .slice none 0 0, .int .i64 0, .int .i64 0, .bool false] 63)) := (Below.refl _ _).alloc (Nat.le_refl _) _
  clear h
  cases neg
  · obtain rfl : f = 0 := by simpa using hfi
    clear hfi
    go_enter Tryz.func31, Tryz.ntmps31
    go_wp2_with fail
    refine (hpx.out _).mono ?_
    rintro e w1 ⟨rfl, rfl⟩
    go_wp2_with fail
    refine (hwd.out _).mono ?_
    rintro e w1 ⟨⟨hk, rfl⟩ | ⟨hk, he⟩, hb1⟩
    · have hb1' : Below (w.heap.size + 1) (w.alloc (.cells #[.int .i64 0, .bool false, .slice none 0 0, .int .i64 0, .int .i64 0, .bool false] 63)) w1 := by simpa using hb1
      have f4 : ∀ o, w1.frozen? ⟨w.heap.size, o, none⟩ = false := fun o => by rw [hb1'.frozen (p := ⟨w.heap.size, o, none⟩) (by show w.heap.size < _; simp)]; simp
      have c40 : w1.cell? ⟨w.heap.size, 0, none⟩ = some (.int .i64 0) := by rw [hb1'.cell (p := ⟨w.heap.size, 0, none⟩) (by show w.heap.size < _; simp)]; simp
      have c41 : w1.cell? ⟨w.heap.size, 1, none⟩ = some (.bool false) := by rw [hb1'.cell (p := ⟨w.heap.size, 1, none⟩) (by show w.heap.size < _; simp)]; simp
      have c42 : w1.cell? ⟨w.heap.size, 2, none⟩ = some (.slice none 0 0) := by rw [hb1'.cell (p := ⟨w.heap.size, 2, none⟩) (by show w.heap.size < _; simp)]; simp
      have c43 : w1.cell? ⟨w.heap.size, 3, none⟩ = some (.int .i64 0) := by rw [hb1'.cell (p := ⟨w.heap.size, 3, none⟩) (by show w.heap.size < _; simp)]; simp
      have c44 : w1.cell? ⟨w.heap.size, 4, none⟩ = some (.int .i64 0) := by rw [hb1'.cell (p := ⟨w.heap.size, 4, none⟩) (by show w.heap.size < _; simp)]; simp
      have c45 : w1.cell? ⟨w.heap.size, 5, none⟩ = some (.bool false) := by rw [hb1'.cell (p := ⟨w.heap.size, 5, none⟩) (by show w.heap.size < _; simp)]; simp
      have hbw := chain hbw0 hb1
      have hok : (textS l).1 = true := by rw [hS1.out]; unfold bodyS; rw [if_pos hk]
      replace hk := Lib.hid hk
      replace hok := Lib.hid hok
      clear hb1 hb1'
      go_wp2
      refine bodyPost_ret (v := .tuple #[.agg #[.int .i64 (wordK t : Nat), .bool false, .slice none 0 0, .int .i64 0, .int .i64 0, .bool false], .int .i64 0, .int .i64 0]) (by simp [results, Tryz.results31, go_sem, c40, c41, c42, c43, c44, c45]) rfl ⟨.inl ⟨hok.out, _, rfl, ?_⟩, ?_⟩
      · rw [hV.out]
        unfold bodyV
        rw [if_pos hk.out]
        exact pItemN.nil _ _ _ _ _ _ _
      · iterate 6 (refine Below.setCell ?_ (by exact Nat.le_refl _) _)
        exact hbw
    · obtain ⟨wn, hwn⟩ : ∃ x, 0 + wordN t = x := ⟨_, rfl⟩
      rw [hwn] at he
      subst he
      have hbw := chain hbw0 hb1
      go_wp2_with fail
      refine (hnm.out _).mono ?_
      rintro e w2 ⟨⟨hok, x, rfl⟩ | ⟨hno, xa, xb, xc, he⟩, hb2⟩
      · obtain ⟨bh, hbh⟩ : ∃ x, numB t = x := ⟨_, rfl⟩
        obtain ⟨ex, hex⟩ : ∃ x, expV 1125899906842624 (numR t) = x := ⟨_, rfl⟩
        obtain ⟨kk, hkk⟩ : ∃ x, ex - (bh : Int) = x := ⟨_, rfl⟩
        have hexb := expV_bound 1125899906842624 (numR t)
        have hbhb : bh ≤ l.length := by rw [← hbh]; exact Nat.le_trans (numB_le t) htl
        rw [hex] at hexb
        rw [hbh, hex]
        have hwk : IntKind.i64.wrap (ex - (bh : Int)) = kk := by rw [hkk]; simp [IntKind.wrap, IntKind.bits, IntKind.signed]; omega
        have hit := fun w => sitem_any (numD t) (numD_digs t) (Nat.le_trans (numD_le t) (by omega)) kk (by omega) w
        have hbw2 := chain hbw hb2
        replace hit := Lib.hid hit
        replace hexb := Lib.hid hexb
        replace hkk := Lib.hid hkk
        go_wp2_with fail
        refine (hit.out _).mono ?_
        rintro e w3 ⟨v, rfl, ⟨A3, c3, zs, rfl, r1, r2, r3, r4, r5, r6⟩, hb3⟩
        have hb13 : Below (w.heap.size + 1) (w.alloc (.cells #[.int .i64 0, .bool false, .slice none 0 0, .int .i64 0, .int .i64 0, .bool false] 63)) w3 := by
          have h1 : Below (w.alloc (.cells #[.int .i64 0, .bool false, .slice none 0 0, .int .i64 0, .int .i64 0, .bool false] 63)).heap.size (w.alloc (.cells #[.int .i64 0, .bool false, .slice none 0 0, .int .i64 0, .int .i64 0, .bool false] 63)) w3 := chain (chain hb1 hb2) hb3
          simpa using h1
        have hz3 : w.heap.size < w2.heap.size := by
          have h1 := (chain hb1 hb2).size
          simp at h1
          omega
        have hz4 : w2.heap.size ≤ w3.heap.size := hb3.size
        obtain ⟨it, hit2⟩ : ∃ x, itemV false (numD t) kk = x := ⟨_, rfl⟩
        rw [hit2] at r5 ⊢
        have hneI : textV 1125899906842624 l = ⟨it.kind, false, it.d, it.k, it.big, it.cut⟩ := by
          rw [hV.out]
          unfold bodyV
          rw [if_neg (by simp [hk]), hex, hbh, hkk.out, itemV_neg, hit2]
        have hokT : (textS l).1 = true := by rw [hS1.out]; unfold bodyS; rw [if_neg (by simp [hk])]; exact hok
        have hbw3 := chain hbw2 hb3
        have f4 : ∀ o, w3.frozen? ⟨w.heap.size, o, none⟩ = false := fun o => by rw [hb13.frozen (p := ⟨w.heap.size, o, none⟩) (by show w.heap.size < _; simp)]; simp
        have c40 : w3.cell? ⟨w.heap.size, 0, none⟩ = some (.int .i64 0) := by rw [hb13.cell (p := ⟨w.heap.size, 0, none⟩) (by show w.heap.size < _; simp)]; simp
        have c41 : w3.cell? ⟨w.heap.size, 1, none⟩ = some (.bool false) := by rw [hb13.cell (p := ⟨w.heap.size, 1, none⟩) (by show w.heap.size < _; simp)]; simp
        have c42 : w3.cell? ⟨w.heap.size, 2, none⟩ = some (.slice none 0 0) := by rw [hb13.cell (p := ⟨w.heap.size, 2, none⟩) (by show w.heap.size < _; simp)]; simp
        have c43 : w3.cell? ⟨w.heap.size, 3, none⟩ = some (.int .i64 0) := by rw [hb13.cell (p := ⟨w.heap.size, 3, none⟩) (by show w.heap.size < _; simp)]; simp
        have c44 : w3.cell? ⟨w.heap.size, 4, none⟩ = some (.int .i64 0) := by rw [hb13.cell (p := ⟨w.heap.size, 4, none⟩) (by show w.heap.size < _; simp)]; simp
        have c45 : w3.cell? ⟨w.heap.size, 5, none⟩ = some (.bool false) := by rw [hb13.cell (p := ⟨w.heap.size, 5, none⟩) (by show w.heap.size < _; simp)]; simp
        have hz5 : w.heap.size < w3.heap.size := by omega
        replace hit2 := Lib.hid hit2
        replace hneI := Lib.hid hneI
        replace hokT := Lib.hid hokT
        clear hb13 hb1 hb2 hb3
        go_wp2
        refine bodyPost_ret (v := .tuple #[.agg #[.int .i64 (it.kind : Nat), .bool false, .slice A3 zs.length c3, .int .i64 it.k, .int .i64 it.big, .bool it.cut], .int .i64 0, .int .i64 0]) (by simp [results, Tryz.results31, go_sem, c40, c41, c42, c43, c44, c45, hz5]) rfl ⟨.inl ⟨hokT.out, _, rfl, ?_⟩, ?_⟩
        · rw [hneI.out]
          refine ⟨A3, c3, zs, rfl, ?_, r2, r3, r4, r5, r6.imp id (fun ⟨b, off, e, h⟩ => ⟨b, off, e, by omega⟩)⟩
          refine RdU.more (B := w3.heap.size) (RdU.alloc ?_ (by simp) _) (by simp)
          iterate 6 (refine RdU.apart ?_ r6 (by show w.heap.size < _; omega))
          exact r1
        · refine Below.alloc ?_ (by simp; omega) _
          iterate 6 (refine Below.setCell ?_ (by exact Nat.le_refl _) _)
          exact hbw3
      · obtain ⟨pn, hpn⟩ : ∃ x, 0 + (numS t).2 = x := ⟨_, rfl⟩
        rw [hpn] at he
        subst he
        have hmx : max (wn : Int) (pn : Int) = (((textS l).2 : Nat) : Int) := by
          rw [hS2.out]
          unfold bodyS
          rw [if_neg (by simp [hk])]
          show _ = (((0 + max (wordN t) (numS t).2 : Nat)) : Int)
          omega
        have hnoT : (textS l).1 = false := by rw [hS1.out]; unfold bodyS; rw [if_neg (by simp [hk])]; exact hno
        have hb12 : Below (w.heap.size + 1) (w.alloc (.cells #[.int .i64 0, .bool false, .slice none 0 0, .int .i64 0, .int .i64 0, .bool false] 63)) w2 := by
          have h1 : Below (w.alloc (.cells #[.int .i64 0, .bool false, .slice none 0 0, .int .i64 0, .int .i64 0, .bool false] 63)).heap.size (w.alloc (.cells #[.int .i64 0, .bool false, .slice none 0 0, .int .i64 0, .int .i64 0, .bool false] 63)) w2 := chain hb1 hb2
          simpa using h1
        have f4 : ∀ o, w2.frozen? ⟨w.heap.size, o, none⟩ = false := fun o => by rw [hb12.frozen (p := ⟨w.heap.size, o, none⟩) (by show w.heap.size < _; simp)]; simp
        have c40 : w2.cell? ⟨w.heap.size, 0, none⟩ = some (.int .i64 0) := by rw [hb12.cell (p := ⟨w.heap.size, 0, none⟩) (by show w.heap.size < _; simp)]; simp
        have c41 : w2.cell? ⟨w.heap.size, 1, none⟩ = some (.bool false) := by rw [hb12.cell (p := ⟨w.heap.size, 1, none⟩) (by show w.heap.size < _; simp)]; simp
        have c42 : w2.cell? ⟨w.heap.size, 2, none⟩ = some (.slice none 0 0) := by rw [hb12.cell (p := ⟨w.heap.size, 2, none⟩) (by show w.heap.size < _; simp)]; simp
        have c43 : w2.cell? ⟨w.heap.size, 3, none⟩ = some (.int .i64 0) := by rw [hb12.cell (p := ⟨w.heap.size, 3, none⟩) (by show w.heap.size < _; simp)]; simp
        have c44 : w2.cell? ⟨w.heap.size, 4, none⟩ = some (.int .i64 0) := by rw [hb12.cell (p := ⟨w.heap.size, 4, none⟩) (by show w.heap.size < _; simp)]; simp
        have c45 : w2.cell? ⟨w.heap.size, 5, none⟩ = some (.bool false) := by rw [hb12.cell (p := ⟨w.heap.size, 5, none⟩) (by show w.heap.size < _; simp)]; simp
        have hbw2 := chain hbw hb2
        replace hnoT := Lib.hid hnoT
        clear hb12 hb1 hb2
        go_wp2
        refine bodyPost_ret (v := .tuple #[itemNo, .int .i64 ((textS l).2 : Nat), .int .i64 2]) (by simp [results, Tryz.results31, go_sem, c40, c41, c42, c43, c44, c45, itemNo]) rfl ⟨.inr ⟨hnoT.out, rfl⟩, ?_⟩
        iterate 6 (refine Below.setCell ?_ (by exact Nat.le_refl _) _)
        exact hbw2
  · obtain rfl : f = 1 := by simp at hfi; omega
    clear hfi
    go_enter Tryz.func31, Tryz.ntmps31
    go_wp2_with fail
    refine (hpx.out _).mono ?_
    rintro e w1 ⟨rfl, rfl⟩
    go_wp2_with fail
    refine (hwd.out _).mono ?_
    rintro e w1 ⟨⟨hk, rfl⟩ | ⟨hk, he⟩, hb1⟩
    · have hb1' : Below (w.heap.size + 1) (w.alloc (.cells #[.int .i64 0, .bool false, .slice none 0 0, .int .i64 0, .int .i64 0, .bool false] 63)) w1 := by simpa using hb1
      have f4 : ∀ o, w1.frozen? ⟨w.heap.size, o, none⟩ = false := fun o => by rw [hb1'.frozen (p := ⟨w.heap.size, o, none⟩) (by show w.heap.size < _; simp)]; simp
      have c40 : w1.cell? ⟨w.heap.size, 0, none⟩ = some (.int .i64 0) := by rw [hb1'.cell (p := ⟨w.heap.size, 0, none⟩) (by show w.heap.size < _; simp)]; simp
      have c41 : w1.cell? ⟨w.heap.size, 1, none⟩ = some (.bool false) := by rw [hb1'.cell (p := ⟨w.heap.size, 1, none⟩) (by show w.heap.size < _; simp)]; simp
      have c42 : w1.cell? ⟨w.heap.size, 2, none⟩ = some (.slice none 0 0) := by rw [hb1'.cell (p := ⟨w.heap.size, 2, none⟩) (by show w.heap.size < _; simp)]; simp
      have c43 : w1.cell? ⟨w.heap.size, 3, none⟩ = some (.int .i64 0) := by rw [hb1'.cell (p := ⟨w.heap.size, 3, none⟩) (by show w.heap.size < _; simp)]; simp
      have c44 : w1.cell? ⟨w.heap.size, 4, none⟩ = some (.int .i64 0) := by rw [hb1'.cell (p := ⟨w.heap.size, 4, none⟩) (by show w.heap.size < _; simp)]; simp
      have c45 : w1.cell? ⟨w.heap.size, 5, none⟩ = some (.bool false) := by rw [hb1'.cell (p := ⟨w.heap.size, 5, none⟩) (by show w.heap.size < _; simp)]; simp
      have hbw := chain hbw0 hb1
      have hok : (textS l).1 = true := by rw [hS1.out]; unfold bodyS; rw [if_pos hk]
      replace hk := Lib.hid hk
      replace hok := Lib.hid hok
      clear hb1 hb1'
      go_wp2
      refine bodyPost_ret (v := .tuple #[.agg #[.int .i64 (wordK t : Nat), .bool true, .slice none 0 0, .int .i64 0, .int .i64 0, .bool false], .int .i64 0, .int .i64 0]) (by simp [results, Tryz.results31, go_sem, c40, c41, c42, c43, c44, c45]) rfl ⟨.inl ⟨hok.out, _, rfl, ?_⟩, ?_⟩
      · rw [hV.out]
        unfold bodyV
        rw [if_pos hk.out]
        exact pItemN.nil _ _ _ _ _ _ _
      · iterate 6 (refine Below.setCell ?_ (by exact Nat.le_refl _) _)
        exact hbw
    · obtain ⟨wn, hwn⟩ : ∃ x, 1 + wordN t = x := ⟨_, rfl⟩
      rw [hwn] at he
      subst he
      have hbw := chain hbw0 hb1
      go_wp2_with fail
      refine (hnm.out _).mono ?_
      rintro e w2 ⟨⟨hok, x, rfl⟩ | ⟨hno, xa, xb, xc, he⟩, hb2⟩
      · obtain ⟨bh, hbh⟩ : ∃ x, numB t = x := ⟨_, rfl⟩
        obtain ⟨ex, hex⟩ : ∃ x, expV 1125899906842624 (numR t) = x := ⟨_, rfl⟩
        obtain ⟨kk, hkk⟩ : ∃ x, ex - (bh : Int) = x := ⟨_, rfl⟩
        have hexb := expV_bound 1125899906842624 (numR t)
        have hbhb : bh ≤ l.length := by rw [← hbh]; exact Nat.le_trans (numB_le t) htl
        rw [hex] at hexb
        rw [hbh, hex]
        have hwk : IntKind.i64.wrap (ex - (bh : Int)) = kk := by rw [hkk]; simp [IntKind.wrap, IntKind.bits, IntKind.signed]; omega
        have hit := fun w => sitem_any (numD t) (numD_digs t) (Nat.le_trans (numD_le t) (by omega)) kk (by omega) w
        have hbw2 := chain hbw hb2
        replace hit := Lib.hid hit
        replace hexb := Lib.hid hexb
        replace hkk := Lib.hid hkk
        go_wp2_with fail
        refine (hit.out _).mono ?_
        rintro e w3 ⟨v, rfl, ⟨A3, c3, zs, rfl, r1, r2, r3, r4, r5, r6⟩, hb3⟩
        have hb13 : Below (w.heap.size + 1) (w.alloc (.cells #[.int .i64 0, .bool false, .slice none 0 0, .int .i64 0, .int .i64 0, .bool false] 63)) w3 := by
          have h1 : Below (w.alloc (.cells #[.int .i64 0, .bool false, .slice none 0 0, .int .i64 0, .int .i64 0, .bool false] 63)).heap.size (w.alloc (.cells #[.int .i64 0, .bool false, .slice none 0 0, .int .i64 0, .int .i64 0, .bool false] 63)) w3 := chain (chain hb1 hb2) hb3
          simpa using h1
        have hz3 : w.heap.size < w2.heap.size := by
          have h1 := (chain hb1 hb2).size
          simp at h1
          omega
        have hz4 : w2.heap.size ≤ w3.heap.size := hb3.size
        obtain ⟨it, hit2⟩ : ∃ x, itemV false (numD t) kk = x := ⟨_, rfl⟩
        rw [hit2] at r5 ⊢
        have hneI : textV 1125899906842624 l = ⟨it.kind, true, it.d, it.k, it.big, it.cut⟩ := by
          rw [hV.out]
          unfold bodyV
          rw [if_neg (by simp [hk]), hex, hbh, hkk.out, itemV_neg, hit2]
        have hokT : (textS l).1 = true := by rw [hS1.out]; unfold bodyS; rw [if_neg (by simp [hk])]; exact hok
        have hbw3 := chain hbw2 hb3
        have f4 : ∀ o, w3.frozen? ⟨w.heap.size, o, none⟩ = false := fun o => by rw [hb13.frozen (p := ⟨w.heap.size, o, none⟩) (by show w.heap.size < _; simp)]; simp
        have c40 : w3.cell? ⟨w.heap.size, 0, none⟩ = some (.int .i64 0) := by rw [hb13.cell (p := ⟨w.heap.size, 0, none⟩) (by show w.heap.size < _; simp)]; simp
        have c41 : w3.cell? ⟨w.heap.size, 1, none⟩ = some (.bool false) := by rw [hb13.cell (p := ⟨w.heap.size, 1, none⟩) (by show w.heap.size < _; simp)]; simp
        have c42 : w3.cell? ⟨w.heap.size, 2, none⟩ = some (.slice none 0 0) := by rw [hb13.cell (p := ⟨w.heap.size, 2, none⟩) (by show w.heap.size < _; simp)]; simp
        have c43 : w3.cell? ⟨w.heap.size, 3, none⟩ = some (.int .i64 0) := by rw [hb13.cell (p := ⟨w.heap.size, 3, none⟩) (by show w.heap.size < _; simp)]; simp
        have c44 : w3.cell? ⟨w.heap.size, 4, none⟩ = some (.int .i64 0) := by rw [hb13.cell (p := ⟨w.heap.size, 4, none⟩) (by show w.heap.size < _; simp)]; simp
        have c45 : w3.cell? ⟨w.heap.size, 5, none⟩ = some (.bool false) := by rw [hb13.cell (p := ⟨w.heap.size, 5, none⟩) (by show w.heap.size < _; simp)]; simp
        have hz5 : w.heap.size < w3.heap.size := by omega
        replace hit2 := Lib.hid hit2
        replace hneI := Lib.hid hneI
        replace hokT := Lib.hid hokT
        clear hb13 hb1 hb2 hb3
        go_wp2
        refine bodyPost_ret (v := .tuple #[.agg #[.int .i64 (it.kind : Nat), .bool true, .slice A3 zs.length c3, .int .i64 it.k, .int .i64 it.big, .bool it.cut], .int .i64 0, .int .i64 0]) (by simp [results, Tryz.results31, go_sem, c40, c41, c42, c43, c44, c45, hz5]) rfl ⟨.inl ⟨hokT.out, _, rfl, ?_⟩, ?_⟩
        · rw [hneI.out]
          refine ⟨A3, c3, zs, rfl, ?_, r2, r3, r4, r5, r6.imp id (fun ⟨b, off, e, h⟩ => ⟨b, off, e, by omega⟩)⟩
          refine RdU.more (B := w3.heap.size) (RdU.alloc ?_ (by simp) _) (by simp)
          iterate 6 (refine RdU.apart ?_ r6 (by show w.heap.size < _; omega))
          exact r1
        · refine Below.alloc ?_ (by simp; omega) _
          iterate 6 (refine Below.setCell ?_ (by exact Nat.le_refl _) _)
          exact hbw3
      · obtain ⟨pn, hpn⟩ : ∃ x, 1 + (numS t).2 = x := ⟨_, rfl⟩
        rw [hpn] at he
        subst he
        have hmx : max (wn : Int) (pn : Int) = (((textS l).2 : Nat) : Int) := by
          rw [hS2.out]
          unfold bodyS
          rw [if_neg (by simp [hk])]
          show _ = (((1 + max (wordN t) (numS t).2 : Nat)) : Int)
          omega
        have hnoT : (textS l).1 = false := by rw [hS1.out]; unfold bodyS; rw [if_neg (by simp [hk])]; exact hno
        have hb12 : Below (w.heap.size + 1) (w.alloc (.cells #[.int .i64 0, .bool false, .slice none 0 0, .int .i64 0, .int .i64 0, .bool false] 63)) w2 := by
          have h1 : Below (w.alloc (.cells #[.int .i64 0, .bool false, .slice none 0 0, .int .i64 0, .int .i64 0, .bool false] 63)).heap.size (w.alloc (.cells #[.int .i64 0, .bool false, .slice none 0 0, .int .i64 0, .int .i64 0, .bool false] 63)) w2 := chain hb1 hb2
          simpa using h1
        have f4 : ∀ o, w2.frozen? ⟨w.heap.size, o, none⟩ = false := fun o => by rw [hb12.frozen (p := ⟨w.heap.size, o, none⟩) (by show w.heap.size < _; simp)]; simp
        have c40 : w2.cell? ⟨w.heap.size, 0, none⟩ = some (.int .i64 0) := by rw [hb12.cell (p := ⟨w.heap.size, 0, none⟩) (by show w.heap.size < _; simp)]; simp
        have c41 : w2.cell? ⟨w.heap.size, 1, none⟩ = some (.bool false) := by rw [hb12.cell (p := ⟨w.heap.size, 1, none⟩) (by show w.heap.size < _; simp)]; simp
        have c42 : w2.cell? ⟨w.heap.size, 2, none⟩ = some (.slice none 0 0) := by rw [hb12.cell (p := ⟨w.heap.size, 2, none⟩) (by show w.heap.size < _; simp)]; simp
        have c43 : w2.cell? ⟨w.heap.size, 3, none⟩ = some (.int .i64 0) := by rw [hb12.cell (p := ⟨w.heap.size, 3, none⟩) (by show w.heap.size < _; simp)]; simp
        have c44 : w2.cell? ⟨w.heap.size, 4, none⟩ = some (.int .i64 0) := by rw [hb12.cell (p := ⟨w.heap.size, 4, none⟩) (by show w.heap.size < _; simp)]; simp
        have c45 : w2.cell? ⟨w.heap.size, 5, none⟩ = some (.bool false) := by rw [hb12.cell (p := ⟨w.heap.size, 5, none⟩) (by show w.heap.size < _; simp)]; simp
        have hbw2 := chain hbw hb2
        replace hnoT := Lib.hid hnoT
        clear hb12 hb1 hb2
        go_wp2
        refine bodyPost_ret (v := .tuple #[itemNo, .int .i64 ((textS l).2 : Nat), .int .i64 2]) (by simp [results, Tryz.results31, go_sem, c40, c41, c42, c43, c44, c45, itemNo]) rfl ⟨.inr ⟨hnoT.out, rfl⟩, ?_⟩
        iterate 6 (refine Below.setCell ?_ (by exact Nat.le_refl _) _)
        exact hbw2
end Go.Proofs.YtdlkfnkmdlcekaaGreatDoor
namespace Go.Proofs.YtdlkfnkmdlcekaaGreatDoor
open Go.RowKit Go.Cal
/-- What '[]byte(s)' lays, read. -/
theorem rd_bytes (w : World) (l : List UInt8) (n : Nat) (fr : Nat × Nat) : RdB (w.drew.alloc (.cells (bytesRow (strL l) n) 5 fr)) (w.heap.size + 1) (some ⟨w.heap.size, 0, none⟩) l := by
  refine ⟨.inr ⟨_, _, rfl, by omega⟩, fun b off e i hi => ?_⟩
  injection e with e
  injection e with e1 e2
  subst e1; subst e2
  have h1 : (w.drew.alloc (.cells (bytesRow (strL l) n) 5 fr)).cell? ⟨w.drew.heap.size, 0 + i, none⟩ = (bytesRow (strL l) n)[0 + i]? := World.cell?_alloc_mark _ _ _ _ _
  have h2 : w.drew.heap.size = w.heap.size := rfl
  rw [h2] at h1
  rw [h1, Nat.zero_add]
  have hs : i < (strL l).data.size := by show i < l.toArray.size; simpa using hi
  rw [bytesRow_at _ _ _ hs]
  have : (strL l).data[i] = l.getD i 0 := by
    show l.toArray[i]'_ = _
    simp [List.getD_eq_getElem?_getD, hi]
    rfl
  rw [this]
end Go.Proofs.YtdlkfnkmdlcekaaGreatDoor
namespace Go.Proofs.YtdlkfnkmdlcekaaGreatDoor
open Go.RowKit Go.Cal
/-- A block that a walk has made. -/
def pBlk (g : Nat) (cs : Array Value) (t : TypeId) (w : World) : Prop := w.heap[g]? = some (.cells cs t (0, 0))
theorem pBlk_st (g : Nat) (cs : Array Value) (t : TypeId) : Stable (pBlk g cs t) := fun w w' h hb => by
  have hlt := (Array.getElem?_eq_some_iff.1 h).1
  exact (hb.block g hlt).trans h
theorem pBlk_made (w : World) (cs : Array Value) (t : TypeId) : pBlk w.heap.size cs t (w.alloc (.cells cs t)) := heap_alloc_new w _
theorem pBlk.cell {g : Nat} {cs : Array Value} {t : TypeId} {w : World} (h : pBlk g cs t w) (i : Nat) (v : Value) (hv : cs[i]? = some v) : w.cell? ⟨g, i, none⟩ = some v := by
  rw [cell_of_row w g i cs t (0, 0) h, hv]
theorem stext_t {w : World} {v1 : Value} {k1 X : Nat} (hT : Tab10 w) (h : IsN w v1 k1 X) (b1 : k1 ≤ 1048576) :
    Calls Tryz.prog 28 #[v1] w fun e w' => e = .returned (.string ⟨(Lib.decDigits X).toArray⟩) ∧ Below w.heap.size w w' := by
  obtain ⟨A1, c1, z1, rfl, r1, hc1, hl1, d1, rfl⟩ := h
  exact text_any c1 w r1 hc1 (by omega) d1 hT
end Go.Proofs.YtdlkfnkmdlcekaaGreatDoor
namespace Go.Proofs.YtdlkfnkmdlcekaaGreatDoor
open Go.RowKit Go.Cal
/-- A slice of bytes that is the walk's own: from its first cell on, no cell of it barred. -/
structure OwnB (w : World) (base g cap : Nat) (l : List UInt8) : Prop where
  base : base ≤ g
  lt : g < w.heap.size
  len : l.length ≤ cap
  capb : cap ≤ maxLen
  cells : ∀ i, i < l.length → w.cell? ⟨g, i, none⟩ = some (.int .u8 (((l.getD i 0).toNat : Nat) : Int))
  some : ∀ i, i < cap → (w.cell? ⟨g, i, none⟩).isSome = true
  free : ∀ i, i < cap → w.frozen? ⟨g, i, none⟩ = false
theorem OwnB.rd {w : World} {base g cap : Nat} {l : List UInt8} (h : OwnB w base g cap l) : RdB w w.heap.size (Option.some ⟨g, 0, none⟩) l := by
  refine ⟨.inr ⟨_, _, rfl, h.lt⟩, fun b off e i hi => ?_⟩
  injection e with e
  injection e with e1 e2
  subst e1; subst e2
  rw [Nat.zero_add]
  exact h.cells i hi
theorem OwnB.below {w w' : World} {base g cap : Nat} {l : List UInt8} (h : OwnB w base g cap l) (hb : Below w.heap.size w w') : OwnB w' base g cap l :=
  ⟨h.base, Nat.lt_of_lt_of_le h.lt hb.size, h.len, h.capb, fun i hi => by rw [(bcell hb).1 _ _ h.lt]; exact h.cells i hi, fun i hi => by rw [(bcell hb).1 _ _ h.lt]; exact h.some i hi, fun i hi => by rw [(bcell hb).2 _ _ h.lt]; exact h.free i hi⟩
theorem OwnB.alloc {w : World} {base g cap : Nat} {l : List UInt8} (h : OwnB w base g cap l) (o : Obj) : OwnB (w.alloc o) base g cap l := h.below ((Below.refl _ _).alloc (Nat.le_refl _) o)
theorem OwnB.drew {w : World} {base g cap : Nat} {l : List UInt8} (h : OwnB w base g cap l) : OwnB w.drew base g cap l := ⟨h.base, h.lt, h.len, h.capb, h.cells, h.some, h.free⟩
/-- The beginning of a slice of bytes. -/
theorem RdB.take {w : World} {B : Nat} {A : Option Addr} {l : List UInt8} (h : RdB w B A l) (n : Nat) : RdB w B A (l.take n) := by
  rcases h.place with rfl | ⟨b, off, e, hb⟩
  · exact ⟨.inl List.take_nil, fun _ _ _ i hi => by simp at hi⟩
  · refine ⟨.inr ⟨b, off, e, hb⟩, fun b' off' e' i hi => ?_⟩
    have hi' : i < l.length ∧ i < n := by rw [List.length_take] at hi; omega
    rw [h.cells b' off' e' i hi'.1]
    simp [List.getD_eq_getElem?_getD, hi'.2]
theorem RdB.more {w : World} {B B' : Nat} {A : Option Addr} {l : List UInt8} (h : RdB w B A l) (hb : B ≤ B') : RdB w B' A l :=
  ⟨h.place.imp id (fun ⟨b, off, e, hl⟩ => ⟨b, off, e, Nat.lt_of_lt_of_le hl hb⟩), h.cells⟩
/-- A slice of bytes that came in. -/
def ArgB (w : World) (v : Value) : Prop := ∃ A c l, v = .slice A (l : List UInt8).length c ∧ RdB w w.heap.size A l ∧ (A = none → c = 0) ∧ l.length ≤ c ∧ c ≤ maxLen
/-- The beginning of it. -/
theorem ArgB.cut {w : World} {v : Value} (h : ArgB w v) (n : Nat) : ∃ A c k l, v = .slice A k c ∧ RdB w w.heap.size A l ∧ (min (k : Int) (n : Int) = ((l : List UInt8).length : Int)) ∧ ((l.length : Nat) : Int) ≤ c ∧ c ≤ maxLen ∧ l.length ≤ n := by
  obtain ⟨A, c, l, rfl, h1, h2, h3, h4⟩ := h
  have hl : (l.take n).length = min n l.length := List.length_take
  exact ⟨A, c, l.length, l.take n, rfl, h1.take n, by omega, by omega, h4, by omega⟩
theorem pItemN.setCell {base : Nat} {v : Value} {it : Cal.Item} {w : World} {p : Addr} (u : Value) (h : pItemN base v it w) (hp : p.block < base) : pItemN base v it (w.setCell p u) := by
  obtain ⟨A, c, zs, e, h1, h2, h3, h4, h5, h6⟩ := h
  refine ⟨A, c, zs, e, ?_, h2, h3, h4, h5, h6⟩
  rw [size_setCell]
  exact RdU.apart h1 h6 hp
theorem pBlk.free {g : Nat} {cs : Array Value} {t : TypeId} {w : World} (h : pBlk g cs t w) (i : Nat) : w.frozen? ⟨g, i, none⟩ = false := by
  unfold pBlk at h
  simp [World.frozen?, h]
theorem pBlk.lt {g : Nat} {cs : Array Value} {t : TypeId} {w : World} (h : pBlk g cs t w) : g < w.heap.size := (Array.getElem?_eq_some_iff.1 h).1
end Go.Proofs.YtdlkfnkmdlcekaaGreatDoor
namespace Go.Proofs.YtdlkfnkmdlcekaaGreatDoor
open Go.RowKit Go.Cal
theorem xin_yes (n : Int) (h1 : -5000 ≤ n) (h2 : n ≤ 5000) (w : World) : Calls Tryz.prog 83 #[.int .i64 n] w fun e w' => e = .returned (.bool true) ∧ w = w' := by
  go_enter Tryz.func83, Tryz.ntmps83
  go_wp2
  go_ret
  exact ⟨rfl, rfl⟩
set_option maxRecDepth 100000 in
set_option maxHeartbeats 1000000 in
theorem xright_yes {w : World} {v : Value} {N : Nat} (neg : Bool) (t f : Int) (h : IsT w v 128 N) (ht : -5000 ≤ t ∧ t ≤ 5000) (hf : -5000 ≤ f ∧ f ≤ 5000) :
    Calls Tryz.prog 50 #[.agg #[.bool neg, v, .int .i64 t, .int .i64 f]] w fun e w' => e = .returned (.bool true) ∧ Below w.heap.size w w' := by
  obtain ⟨A, c, zs, rfl, rd, hc, hcm, hl, nr⟩ := h
  have hb0 := (Below.refl w.heap.size w).alloc (Nat.le_refl _) (.cells #[.bool neg, .slice A zs.length c, .int .i64 t, .int .i64 f] 56)
  obtain ⟨ht1, ht2⟩ := ht
  obtain ⟨hf1, hf2⟩ := hf
  by_cases h0 : zs = []
  · subst h0
    go_enter Tryz.func50, Tryz.ntmps50
    go_wp2_with fail
    refine (xin_yes t ht1 ht2 _).mono ?_
    rintro e w1 ⟨rfl, rfl⟩
    go_wp2_with fail
    refine (xin_yes f hf1 hf2 _).mono ?_
    rintro e w1 ⟨rfl, rfl⟩
    go_wp2
    go_ret
    exact ⟨rfl, hb0⟩
  · have hpos := List.length_pos_iff.2 h0
    obtain ⟨b, off, rfl, hbB, hcell⟩ := rd.at (i := 0) hpos
    obtain ⟨n, hn⟩ : ∃ n, zs.length = n := ⟨_, rfl⟩
    have hlast := nr.top h0
    have hx := hcell (n - 1) (by omega)
    have hxv : zs.getD (n - 1) 0 = zs.getLast h0 := by
      rw [List.getLast_eq_getElem, List.getD_eq_getElem?_getD, List.getElem?_eq_getElem (by omega)]
      simp [hn]
    rw [hxv] at hx
    obtain ⟨x, hxx⟩ : ∃ x, zs.getLast h0 = x := ⟨_, rfl⟩
    rw [hxx] at hx hlast
    rw [hn] at hc hl hb0 ⊢
    have hx' : (w.alloc (.cells #[.bool neg, .slice (some ⟨b, off, none⟩) n c, .int .i64 t, .int .i64 f] 56)).cell? ⟨b, off + (n - 1), none⟩ = some (.int .u64 (x : Nat)) := by
      rw [World.cell?_alloc_lt _ _ _ hbB]; exact hx
    have hn0 : 0 < n := by omega
    have hxn : ((x : Int) == 0) = false := by simpa using hlast
    have hxm : ((x : Int) != 0) = true := by simpa using hlast
    clear hxv hxx hcell rd nr hlast hn hpos
    go_enter Tryz.func50, Tryz.ntmps50
    go_wp2_with fail
    refine (xin_yes t ht1 ht2 _).mono ?_
    rintro e w1 ⟨rfl, rfl⟩
    go_wp2_with fail
    refine (xin_yes f hf1 hf2 _).mono ?_
    rintro e w1 ⟨rfl, rfl⟩
    go_wp2
    go_ret
    exact ⟨rfl, hb0⟩
theorem pBlk.setX {g : Nat} {cs : Array Value} {t : TypeId} {w : World} (h : pBlk g cs t w) (i : Nat) (u : Value) : pBlk g (cs.setIfInBounds i u) t (w.setCell ⟨g, i, none⟩ u) := Lib.heap_setCell_same (i := i) h u
theorem IsT.apartX {w : World} {v u : Value} {k N g i : Nat} {cs : Array Value} {t : TypeId} (h : IsT w v k N) (hp : pBlk g cs t w) (hy : ∀ x ∈ cs.toList, ∀ n, x ≠ .int .u64 n) : IsT (w.setCell ⟨g, i, none⟩ u) v k N := by
  obtain ⟨A, c, zs, h1, h2, h3⟩ := h
  refine ⟨A, c, zs, h1, ⟨?_, fun b off e j hj => ?_⟩, h3⟩
  · rw [size_setCell]; exact h2.place
  · have hc := h2.cells b off e j hj
    by_cases hb : b = g
    · subst hb
      exfalso
      rw [cell_of_row w b _ _ _ _ hp] at hc
      have hm : Value.int .u64 ((zs.getD j 0 : Nat) : Int) ∈ cs.toList := by
        have := Array.mem_of_getElem? hc
        simpa using this
      exact hy _ hm _ rfl
    · rw [World.cell?_setCell_other _ _ _ _ (fun e => hb (by injection e with e; exact e.symm))]
      exact hc
theorem isT_fitX {w : World} {v : Value} {k N : Nat} (h : IsT w v k N) (hN : N < 18446744073709551616 ^ 128) : IsT w v 128 N := by
  obtain ⟨A, c, zs, h1, h2, h3, h4, h5, h6⟩ := h
  exact ⟨A, c, zs, h1, h2, h3, h4, h6.length_le hN, h6⟩
theorem bits_b {w : World} {v : Value} {k N : Nat} (h : IsT w v k N) (hk : k ≤ 1048576 := by decide) :
    Calls Tryz.prog 128 #[v] w fun e w' => e = .returned (.int .i64 (blen N : Nat)) ∧ Below w.heap.size w w' := by
  obtain ⟨A1, c1, z1, rfl, r1, hc1, hl1, d1, nr⟩ := h
  refine (bits_any c1 w r1 hc1 (by omega) nr.dig).mono ?_
  rintro e w' ⟨he, rfl⟩
  rw [nr.val] at he
  exact ⟨he, Below.refl _ _⟩
set_option maxRecDepth 100000 in
set_option maxHeartbeats 1000000 in
theorem xdec_yes {w : World} {d : Value} {m N : Nat} (neg : Bool) (k : Int) (h : IsN w d m N) (hm : m ≤ 1048576) (hN : N < 18446744073709551616 ^ 128) (hk : -5000 ≤ k ∧ k ≤ 5000) :
    Calls Tryz.prog 27 #[.bool neg, d, .int .i64 k] w fun e w' => ∃ v, e = .returned (.tuple #[.agg #[.bool neg, v, .int .i64 k, .int .i64 k], .bool true]) ∧ IsT w' v 128 N ∧ Below w.heap.size w w' := by
  have hnm := Lib.hid (norm_t (h.below ((Below.refl _ _).alloc (Nat.le_refl _) (.cells #[.bool false, .slice none 0 0, .int .i64 0, .int .i64 0] 56))) hm)
  obtain ⟨A0, c0, z0, rfl, -⟩ := id h
  replace hN := Lib.hid hN
  clear h
  go_enter Tryz.func27, Tryz.ntmps27
  go_wp2_with fail
  refine hnm.out.mono ?_
  rintro e w1 ⟨v, rfl, hv, hb⟩
  obtain ⟨A, c, zs, rfl, -⟩ := id hv
  obtain ⟨n, hn⟩ : ∃ n, zs.length = n := ⟨_, rfl⟩
  rw [hn] at hv ⊢
  clear hn hnm
  have hv128 : IsT w1 (.slice A n c) 128 N := isT_fitX hv hN.out
  have hp := pBlk_st _ _ _ _ _ (pBlk_st _ _ _ _ _ (pBlk_made w #[.bool false, .slice none 0 0, .int .i64 0, .int .i64 0] 56) hb) ((Below.refl _ _).alloc (Nat.le_refl _) (.cells #[.bool neg, .slice A n c, .int .i64 k, .int .i64 k] 56))
  have hB : Below w.heap.size w w1 := ((Below.refl _ _).alloc (Nat.le_refl _) _).trans (hb.mono (by simp))
  have hz := hb.size
  simp at hz
  have hrt := Lib.hid (xright_yes neg k k (hv128.below ((Below.refl _ _).alloc (Nat.le_refl _) (.cells #[.bool neg, .slice A n c, .int .i64 k, .int .i64 k] 56))) hk hk)
  go_wp2_with fail
  refine hrt.out.mono ?_
  rintro e w2 ⟨rfl, hb2⟩
  have hp2 := pBlk_st _ _ _ _ _ hp hb2
  have hq2 := pBlk_st _ _ _ _ _ (pBlk_made w1 #[.bool neg, .slice A n c, .int .i64 k, .int .i64 k] 56) hb2
  have hv2 := (hv128.below ((Below.refl _ _).alloc (Nat.le_refl _) (.cells #[.bool neg, .slice A n c, .int .i64 k, .int .i64 k] 56))).below hb2
  have r0 := hp2.cell 0 _ rfl
  have s0 := hp2.free 0
  have q0 := hq2.cell 0 _ rfl
  have r1 := hp2.cell 1 _ rfl
  have s1 := hp2.free 1
  have q1 := hq2.cell 1 _ rfl
  have r2 := hp2.cell 2 _ rfl
  have s2 := hp2.free 2
  have q2 := hq2.cell 2 _ rfl
  have r3 := hp2.cell 3 _ rfl
  have s3 := hp2.free 3
  have q3 := hq2.cell 3 _ rfl
  have hB2 : Below w.heap.size w w2 := (hB.alloc hB.size _).trans (hb2.mono (by simp; omega))
  have hno : ∀ (a b c d : Value), (∀ n, a ≠ .int .u64 n) → (∀ n, b ≠ .int .u64 n) → (∀ n, c ≠ .int .u64 n) → (∀ n, d ≠ .int .u64 n) → ∀ x ∈ (#[a, b, c, d] : Array Value).toList, ∀ n, x ≠ .int .u64 n := by
    intro a b c d ha hb hc hd x hx
    simp at hx
    rcases hx with rfl | rfl | rfl | rfl <;> assumption
  have hvf := IsT.apartX (i := 3) (u := .int .i64 k) (IsT.apartX (i := 2) (u := .int .i64 k) (IsT.apartX (i := 1) (u := .slice A n c) (IsT.apartX (i := 0) (u := .bool neg) hv2 hp2 (hno _ _ _ _ (by simp) (by simp) (by simp) (by simp))) (hp2.setX 0 (.bool neg)) (hno _ _ _ _ (by simp) (by simp) (by simp) (by simp))) ((hp2.setX 0 (.bool neg)).setX 1 (.slice A n c)) (hno _ _ _ _ (by simp) (by simp) (by simp) (by simp))) (((hp2.setX 0 (.bool neg)).setX 1 (.slice A n c)).setX 2 (.int .i64 k)) (hno _ _ _ _ (by simp) (by simp) (by simp) (by simp))
  have hpf := (((hp2.setX 0 (.bool neg)).setX 1 (.slice A n c)).setX 2 (.int .i64 k)).setX 3 (.int .i64 k)
  have y0 := hpf.cell 0 _ rfl
  have y1 := hpf.cell 1 _ rfl
  have y2 := hpf.cell 2 _ rfl
  have y3 := hpf.cell 3 _ rfl
  clear hp hrt hp2 hq2 hv hv128 hno hv2 hpf
  go_wp2
  refine bodyPost_ret (v := .tuple #[.agg #[.bool neg, .slice A n c, .int .i64 k, .int .i64 k], .bool true]) (by simp [results, Tryz.results27, go_sem, y0, y1, y2, y3]) rfl ⟨_, rfl, hvf, ?_⟩
  exact (((hB2.setCell (p := ⟨w.heap.size, 0, none⟩) (Nat.le_refl _) _).setCell (p := ⟨w.heap.size, 1, none⟩) (Nat.le_refl _) _).setCell (p := ⟨w.heap.size, 2, none⟩) (Nat.le_refl _) _).setCell (p := ⟨w.heap.size, 3, none⟩) (Nat.le_refl _) _
/-- Where a size is within a word: no wrap. -/
theorem wrap64_idG {x : Int} (h1 : -9223372036854775808 ≤ x) (h2 : x ≤ 9223372036854775807) : wrap64 x = x := by
  unfold wrap64
  omega
theorem blen_bl (N : Nat) : blen N = bl N := rfl
theorem size_pure (N : Nat) (t f : Int) (hN : N < 18446744073709551616 ^ 128) (ht : -5000 ≤ t ∧ t ≤ 5000) (hf : -5000 ≤ f ∧ f ≤ 5000) : wrap64 (wrap64 ((blen N : Int) + t) + (f * 2321928095).tdiv 1000000000) = exS (blen N) t f := by
  have e : (18446744073709551616 : Nat) ^ 128 = 2 ^ 8192 := by decide +kernel
  have hb : blen N ≤ 8192 := by rw [blen_bl]; exact bl_iff.2 (e ▸ hN)
  have hl := lg_tdiv f
  have h1 : lg5 f.toNat ≤ 12000 := by unfold lg5; omega
  have h2 : lg5 (-f).toNat ≤ 12000 := by unfold lg5; omega
  unfold exS
  generalize (f * 2321928095).tdiv 1000000000 = q at hl ⊢
  rw [wrap64_idG (x := (blen N : Int) + t) (by omega) (by omega), wrap64_idG (by omega) (by omega)]
set_option maxRecDepth 100000 in
set_option maxHeartbeats 1000000 in
theorem xsize_any {w : World} {v : Value} {N : Nat} (neg : Bool) (t f : Int) (h : IsT w v 128 N) (ht : -5000 ≤ t ∧ t ≤ 5000) (hf : -5000 ≤ f ∧ f ≤ 5000) :
    Calls Tryz.prog 129 #[.agg #[.bool neg, v, .int .i64 t, .int .i64 f]] w fun e w' => e = .returned (.int .i64 (exS (blen N) t f)) ∧ Below w.heap.size w w' := by
  obtain ⟨A0, c0, z0, rfl, -⟩ := id h
  obtain ⟨n, hn⟩ : ∃ n, z0.length = n := ⟨_, rfl⟩
  rw [hn] at h ⊢
  clear hn
  have hsz := Lib.hid (size_pure N t f h.isN.lt ht hf)
  obtain ⟨hf1, hf2⟩ := hf
  have c0' := fun (u : Later (w.heap.size + 1) (w.alloc (.cells #[.bool neg, .slice A0 n c0, .int .i64 t, .int .i64 f] 56))) => u.cell w.heap.size 1 (.slice A0 n c0) (by omega) (by simp)
  have c1' := fun (u : Later (w.heap.size + 1) (w.alloc (.cells #[.bool neg, .slice A0 n c0, .int .i64 t, .int .i64 f] 56))) => u.cell w.heap.size 2 (.int .i64 t) (by omega) (by simp)
  have c2' := fun (u : Later (w.heap.size + 1) (w.alloc (.cells #[.bool neg, .slice A0 n c0, .int .i64 t, .int .i64 f] 56))) => u.cell w.heap.size 3 (.int .i64 f) (by omega) (by simp)
  have hbt := Lib.hid fun (u : Later (w.heap.size + 1) (w.alloc (.cells #[.bool neg, .slice A0 n c0, .int .i64 t, .int .i64 f] 56))) => bits_b (h.below (((Below.refl _ _).alloc (Nat.le_refl _) _).trans (u.prop.mono (by omega))))
  go_enter Tryz.func129, Tryz.ntmps129
  go_wp2_with fail
  refine wp_region_later (B := w.heap.size + 1) (by kernel_rfl) (by kernel_rfl) (Below.refl _ _) ?_
  repeat (go_big_quiet_step ((go_at_call 128; exact Calls.later_of (by simp) (hbt.out _))))
  refine wpQuiet_nil ?_
  intro w2 hb2
  go_wp2
  rw [hsz.out]
  go_ret
  exact ⟨rfl, ((Below.refl _ _).alloc (Nat.le_refl _) _).trans (hb2.mono (by omega))⟩
/-- The powers of five in at most two steps. -/
theorem five_steps (f : Int) (h : f ≤ 10000) : (f ≤ 0 ∧ f.toNat = 0) ∨ (0 < f ∧ f ≤ 5000 ∧ (min (max f 0) 10000).toNat = f.toNat) ∨ (5000 < f ∧ f - 5000 ≤ 5000 ∧ f.toNat = 5000 + (f - 5000).toNat ∧ (min (max (f - 5000) 0) 10000).toNat = (f - 5000).toNat) := by omega
theorem shl_bnd (k X s m : Nat) (hX : X < 18446744073709551616 ^ k) (hs : s ≤ 64 * m) : X * 2 ^ s < 18446744073709551616 ^ (k + m) := by
  have h1 : X * 2 ^ s < 18446744073709551616 ^ k * 2 ^ s := Nat.mul_lt_mul_of_pos_right hX (Nat.two_pow_pos _)
  have h2 : 2 ^ s ≤ 2 ^ (64 * m) := Nat.pow_le_pow_right (by decide) hs
  have h3 : (2 : Nat) ^ (64 * m) = 18446744073709551616 ^ m := by rw [Nat.pow_mul]
  rw [Nat.pow_add, ← h3]
  exact Nat.lt_of_lt_of_le h1 (Nat.mul_le_mul_left _ h2)
theorem less_words {X k m : Nat} (h : X < 18446744073709551616 ^ k) (hk : k ≤ m) : X < 18446744073709551616 ^ m := Nat.lt_of_lt_of_le h (Nat.pow_le_pow_right (by decide) hk)
set_option maxRecDepth 100000 in
set_option maxHeartbeats 1000000 in
theorem xscaled_any {w : World} {v : Value} {N : Nat} (m : Nat) (hm : 12178 ≤ m) (two five : Int) (h : IsN w v 128 N) (h2 : two ≤ 131072) (h5 : five ≤ 10000) :
    Calls Tryz.prog 153 #[v, .int .i64 two, .int .i64 five] w (TellsT w m (exP N two five)) := by
  obtain ⟨s, hs⟩ : ∃ s : Nat, (min (max (max two 0) 0) 131072).toNat = s := ⟨_, rfl⟩
  have hs2 : two.toNat = s := by omega
  have hsl : s ≤ 131072 := by omega
  have hP : exP N two five = N * 5 ^ five.toNat * 2 ^ s := by unfold exP; rw [hs2]
  rw [hP]
  have hmn : min five 20000 = five := by omega
  rcases five_steps five h5 with ⟨f0, f1⟩ | ⟨f0, f1, f2⟩ | ⟨f0, f1, f2, f3⟩
  · rw [f1, Nat.pow_zero, Nat.mul_one]
    have hsh := Lib.hid fun (w' : World) (h' : IsN w' v 128 N) => shl_t (max two 0) m (N * 2 ^ s) h' (by decide) (by rw [hs]) (less_words (shl_bnd 128 N s 2048 h'.lt (by omega)) (by omega))
    clear hP hs2 f1
    go_enter Tryz.func153, Tryz.ntmps153
    go_wp2
    refine wp_loop_rounds 1 ?_
    rw [rounds_succ]
    go_wp2_with fail
    refine (hsh.out _ h).mono ?_
    rintro e w1 ⟨v1, rfl, hv1, hb1⟩
    go_wp2
    go_ret
    exact ⟨_, rfl, hv1, hb1⟩
  · have hpw := Lib.hid fun w' => pow_t w' 5 (by decide) five five.toNat f2
    have hm5 : min five 5000 = five := by omega
    obtain ⟨F, hF⟩ : ∃ F, five.toNat = F := ⟨_, rfl⟩
    rw [hF] at hpw ⊢
    have hFl : F ≤ 5000 := by omega
    clear hP hs2 hF f2
    go_enter Tryz.func153, Tryz.ntmps153
    go_wp2
    refine wp_loop_rounds 2 ?_
    rw [rounds_succ]
    go_wp2_with fail
    refine (hpw.out _).mono ?_
    rintro e w1 ⟨v1, rfl, hv1, hb1⟩
    go_wp2_with fail
    refine (mul_t (h.below hb1) (IsT.isN hv1) (by decide) (by omega)).mono ?_
    rintro e w2 ⟨v2, rfl, hv2, hb2⟩
    have hn2 : IsN w2 v2 (128 + (F + 1)) (N * 5 ^ F) := IsT.isN hv2
    go_wp2_with fail
    rw [rounds_succ]
    go_wp2_with fail
    refine (shl_t (max two 0) m (N * 5 ^ F * 2 ^ s) hn2 (by omega) (by rw [hs]) (less_words (shl_bnd _ _ s 2048 hn2.lt (by omega)) (by omega))).mono ?_
    rintro e w3 ⟨v3, rfl, hv3, hb3⟩
    go_wp2
    go_ret
    exact ⟨_, rfl, hv3, (hb1.trans (hb2.mono hb1.size)).trans (hb3.mono (Nat.le_trans hb1.size hb2.size))⟩
  · obtain ⟨p5, hp5⟩ : ∃ p : Nat, p = 5000 := ⟨_, rfl⟩
    have hpw := Lib.hid fun w' => pow_t w' 5 (by decide) 5000 p5 (by rw [hp5]; decide)
    rw [← hp5] at f2
    have hpw2 := Lib.hid fun w' => pow_t w' 5 (by decide) (five - 5000) (five - 5000).toNat f3
    have hm5 : min five 5000 = 5000 := by omega
    have hm6 : min (five - 5000) 5000 = five - 5000 := by omega
    obtain ⟨F, hF⟩ : ∃ F, (five - 5000).toNat = F := ⟨_, rfl⟩
    rw [f2]
    rw [hF] at hpw2 ⊢
    have hFl : F ≤ 5000 := by omega
    rw [Nat.pow_add, ← Nat.mul_assoc]
    clear hP hs2 hF f2 f3
    obtain ⟨G, hG⟩ : ∃ G, 5 ^ p5 = G := ⟨_, rfl⟩
    rw [hG] at hpw ⊢
    clear hG
    go_enter Tryz.func153, Tryz.ntmps153
    go_wp2
    refine wp_loop_rounds 3 ?_
    rw [rounds_succ]
    go_wp2_with fail
    refine (hpw.out _).mono ?_
    rintro e w1 ⟨v1, rfl, hv1, hb1⟩
    go_wp2_with fail
    refine (mul_t (h.below hb1) (IsT.isN hv1) (by decide) (by omega)).mono ?_
    rintro e w2 ⟨v2, rfl, hv2, hb2⟩
    have hn2 : IsN w2 v2 (128 + (p5 + 1)) (N * G) := IsT.isN hv2
    go_wp2_with fail
    rw [rounds_succ]
    go_wp2_with fail
    refine (hpw2.out _).mono ?_
    rintro e w3 ⟨v3, rfl, hv3, hb3⟩
    go_wp2_with fail
    refine (mul_t (hn2.below hb3) (IsT.isN hv3) (by omega) (by omega)).mono ?_
    rintro e w4 ⟨v4, rfl, hv4, hb4⟩
    have hn4 : IsN w4 v4 (128 + (p5 + 1) + (F + 1)) (N * G * 5 ^ F) := IsT.isN hv4
    go_wp2_with fail
    rw [rounds_succ]
    go_wp2_with fail
    refine (shl_t (max two 0) m (N * G * 5 ^ F * 2 ^ s) hn4 (by omega) (by rw [hs]) (less_words (shl_bnd _ _ s 2048 hn4.lt (by omega)) (by omega))).mono ?_
    rintro e w5 ⟨v5, rfl, hv5, hb5⟩
    go_wp2
    go_ret
    have hB2 := hb1.trans (hb2.mono hb1.size)
    have hB4 := (hB2.trans (hb3.mono hB2.size)).trans (hb4.mono (Nat.le_trans hB2.size hb3.size))
    exact ⟨_, rfl, hv5, hB4.trans (hb5.mono hB4.size)⟩
end Go.Proofs.YtdlkfnkmdlcekaaGreatDoor
