/- Scan, fourth part: texts. Conditions: a text's reach. -/
/- The laws of Scan, small steps: what a text is; are two items the same. Conditions: a text's reach. -/
/- The laws of Scan: what must be in any case. Condition: the table of powers reads as it is laid. -/
/- Bytes put behind bytes: append, onto a slice that the walk has made. Conditions: the length's reach. -/
import Derived.Test.YtncfbleeidjflaaGreatDoorTx17
import Derived.Test.YtncfbleeidjflaaGreatDoorTx18
import Derived.Lib.SlBytesRow
import Derived.Laws.IdiomStrings
import Derived.Lib.SlBytesConst
import Derived.Lib.AppendStr
import Derived.Lib.SlBuf
import Derived.ArgAppend
import Derived.Test.YtncfbleeidjflaaGreatDoorTx13
import Derived.Test.YtncfbleeidjflaaGreatDoorTx01
namespace Go.Proofs.YtncfbleeidjflaaGreatDoor
open Go.RowKit Go.Cal
theorem sunder_bytes : Tryz.prog.underlying 66 = some (.slice 5) := by kernel_rfl
theorem sunder_byte : Tryz.prog.underlying 5 = some (.int .u8) := by kernel_rfl
theorem sunder_str : Tryz.prog.underlying 9 = some .string := by kernel_rfl
/-- The slice at A reads as the bytes l; it lies below block B. -/
structure RdB (w : World) (B : Nat) (A : Option Addr) (l : List UInt8) : Prop where
  place : l = [] ∨ ∃ b off, A = some ⟨b, off, none⟩ ∧ b < B
  cells : ∀ b off, A = some ⟨b, off, none⟩ → ∀ i, i < l.length → w.cell? ⟨b, off + i, none⟩ = some (.int .u8 (((l.getD i 0).toNat : Nat) : Int))
theorem RdB.keep {w w' : World} {B : Nat} {A : Option Addr} {l : List UInt8} (h : RdB w B A l) (hk : ∀ b o, b < B → w'.cell? ⟨b, o, none⟩ = w.cell? ⟨b, o, none⟩) : RdB w' B A l := by
  rcases h.place with rfl | ⟨b, off, e, hb⟩
  · exact ⟨.inl rfl, fun _ _ _ i hi => by simp at hi⟩
  · refine ⟨.inr ⟨b, off, e, hb⟩, fun b' off' e' i hi => ?_⟩
    rw [e] at e'
    injection e' with e'
    injection e' with e1 e2
    subst e1; subst e2
    rw [hk _ _ hb]
    exact h.cells _ _ e i hi
theorem RdB.below {w w' : World} {B : Nat} {A : Option Addr} {l : List UInt8} (h : RdB w B A l) (hb : Below B w w') : RdB w' B A l := h.keep fun b o hp => hb.cell (p := ⟨b, o, none⟩) hp
theorem conv_bytes {w : World} {B : Nat} {A : Option Addr} {l : List UInt8} (c : Nat) (h : RdB w B A l) : (convert 66 9 (.slice A l.length c)).run Tryz.prog w = .ok (.string (strL l)) w := by
  cases A with
  | none =>
    rcases h.place with rfl | ⟨b, off, e, _⟩
    · exact run_convert_bytes_nil (P := Tryz.prog) w 66 5 sunder_bytes sunder_byte _ _ 9 sunder_str
    · cases e
  | some a =>
    refine run_convert_bytes_back (P := Tryz.prog) w 66 9 5 a c l sunder_bytes sunder_byte sunder_str (fun j hj => ?_)
    rcases h.place with rfl | ⟨b, off, e, _⟩
    · simp at hj
    · injection e with e
      subst e
      rw [Lib.add_plain, h.cells b off rfl j hj]
      simp [List.getD_eq_getElem?_getD, hj]
def itemNo : Value := .agg #[.int .i64 0, .bool false, .slice none 0 0, .int .i64 0, .int .i64 0, .bool false]
/-- What Scan tells. -/
def ScanOut (w : World) (l : List UInt8) (e : Ending) (w' : World) : Prop :=
  (((textS l).1 = true ∧ ∃ v, e = .returned (.tuple #[v, .int .i64 0, .int .i64 0]) ∧ pItemN w.heap.size v (textV 1125899906842624 l) w') ∨ ((textS l).1 = false ∧ e = .returned (.tuple #[itemNo, .int .i64 ((textS l).2 : Nat), .int .i64 2]))) ∧ Below w.heap.size w w'
/-- A text, by its sign. -/
theorem text_parts (l : List UInt8) : ∃ (neg : Bool) (f : Nat), Lib.hasPrefix l [45] = neg ∧ f = (if neg then 1 else 0) ∧ f ≤ l.length ∧ (textS l).1 = (bodyS (l.drop f)).1 ∧ (textS l).2 = f + (bodyS (l.drop f)).2 ∧ textV 1125899906842624 l = bodyV 1125899906842624 neg (l.drop f) := by
  match l with
  | [] => exact ⟨false, 0, rfl, rfl, Nat.le_refl _, rfl, by simp [textS], rfl⟩
  | c :: t =>
    by_cases h : c = 45
    · subst h
      exact ⟨true, 1, by simp [Lib.hasPrefix], rfl, by simp, rfl, by show _ + 1 = 1 + _; rw [Nat.add_comm]; rfl, rfl⟩
    · refine ⟨false, 0, by show ((45 : UInt8) == c && List.isPrefixOf [] t) = false; rw [beq_eq_false_iff_ne.2 (Ne.symm h)]; rfl, rfl, by simp, ?_, ?_, ?_⟩
      · unfold textS
        split
        · rename_i e; injection e with e1 e2; exact absurd e1 h
        · rfl
      · unfold textS
        split
        · rename_i e; injection e with e1 e2; exact absurd e1 h
        · simp
      · unfold textV
        split
        · rename_i e; injection e with e1 e2; exact absurd e1 h
        · rfl
theorem prefix_any (l : List UInt8) (w : World) (n : Bool) (hn : Lib.hasPrefix l [45] = n) : Calls Tryz.prog 85 #[.string (strL l), .string ⟨#[45]⟩] w fun e w' => e = .returned (.bool n) ∧ w = w' := by
  subst hn
  refine (Tryz.strings_HasPrefix (strL l) ⟨#[45]⟩ w).mono ?_
  rintro e w' ⟨rfl, rfl⟩
  exact ⟨rfl, rfl⟩
set_option maxRecDepth 100000 in
set_option maxHeartbeats 2000000 in
theorem scan_any {A : Option Addr} (l : List UInt8) (c : Nat) (w : World) (h : RdB w w.heap.size A l) (hl : l.length ≤ 1099511627776) : Calls Tryz.prog 34 #[.slice A l.length c] w (ScanOut w l) := by
  obtain ⟨neg, f, hneg, hf, hfl, hS1, hS2, hV⟩ := text_parts l
  have hcv := conv_bytes c (h.below ((Below.refl _ _).alloc (Nat.le_refl _) (.cells #[.int .i64 0, .bool false, .slice none 0 0, .int .i64 0, .int .i64 0, .bool false] 63)))
  have hpx := fun w => prefix_any l w neg hneg
  have hwd := fun w => sword_any l (by unfold maxLen; omega) f hfl w
  have hnm := fun w => snum_any l (by unfold maxLen; omega) f hfl w
  obtain ⟨t, ht⟩ : ∃ t, l.drop f = t := ⟨_, rfl⟩
  have htl : t.length ≤ l.length := by rw [← ht, List.length_drop]; omega
  rw [ht] at hS1 hS2 hV hwd hnm
  have hfi : (f : Int) = if neg then 1 else 0 := by rw [hf]; split <;> rfl
  replace hpx := Lib.hid hpx
  replace hwd := Lib.hid hwd
  replace hnm := Lib.hid hnm
  replace hS1 := Lib.hid hS1
  replace hS2 := Lib.hid hS2
  replace hV := Lib.hid hV
  replace ht := Lib.hid ht
  replace hf := Lib.hid hf
  replace hneg := Lib.hid hneg
  have hbw0 : Below w.heap.size w (w.alloc (.cells #[.int .i64 0, .bool false, .slice none 0 0, .int .i64 0, .int .i64 0, .bool false] 63)) := (Below.refl _ _).alloc (Nat.le_refl _) _
  clear h
  cases neg
  · obtain rfl : f = 0 := by simpa using hfi
    clear hfi
    go_enter Tryz.func34, Tryz.ntmps34
    go_wp2_with fail
    refine (hpx.out _).mono ?_
    rintro e w1 ⟨rfl, rfl⟩
    go_wp2_with fail
    refine (hwd.out _).mono ?_
    rintro e w1 ⟨⟨hk, rfl⟩ | ⟨hk, he⟩, hb1⟩
    · have hb1' : Below (w.heap.size + 1) (w.alloc (.cells #[.int .i64 0, .bool false, .slice none 0 0, .int .i64 0, .int .i64 0, .bool false] 63)) w1 := by simpa using hb1
      have f4 : ∀ o, w1.frozen? ⟨w.heap.size, o, none⟩ = false := fun o => by rw [hb1'.frozen (p := ⟨w.heap.size, o, none⟩) (by show w.heap.size < _; simp)]; simp
      have c40 : w1.cell? ⟨w.heap.size, 0, none⟩ = some (.int .i64 0) := by rw [hb1'.cell (p := ⟨w.heap.size, 0, none⟩) (by show w.heap.size < _; simp)]; simp
      have c41 : w1.cell? ⟨w.heap.size, 1, none⟩ = some (.bool false) := by rw [hb1'.cell (p := ⟨w.heap.size, 1, none⟩) (by show w.heap.size < _; simp)]; simp
      have c42 : w1.cell? ⟨w.heap.size, 2, none⟩ = some (.slice none 0 0) := by rw [hb1'.cell (p := ⟨w.heap.size, 2, none⟩) (by show w.heap.size < _; simp)]; simp
      have c43 : w1.cell? ⟨w.heap.size, 3, none⟩ = some (.int .i64 0) := by rw [hb1'.cell (p := ⟨w.heap.size, 3, none⟩) (by show w.heap.size < _; simp)]; simp
      have c44 : w1.cell? ⟨w.heap.size, 4, none⟩ = some (.int .i64 0) := by rw [hb1'.cell (p := ⟨w.heap.size, 4, none⟩) (by show w.heap.size < _; simp)]; simp
      have c45 : w1.cell? ⟨w.heap.size, 5, none⟩ = some (.bool false) := by rw [hb1'.cell (p := ⟨w.heap.size, 5, none⟩) (by show w.heap.size < _; simp)]; simp
      have hbw := chain hbw0 hb1
      have hok : (textS l).1 = true := by rw [hS1.out]; unfold bodyS; rw [if_pos hk]
      replace hk := Lib.hid hk
      replace hok := Lib.hid hok
      clear hb1 hb1'
      go_wp2
      refine bodyPost_ret (v := .tuple #[.agg #[.int .i64 (wordK t : Nat), .bool false, .slice none 0 0, .int .i64 0, .int .i64 0, .bool false], .int .i64 0, .int .i64 0]) (by simp [results, Tryz.results34, go_sem, c40, c41, c42, c43, c44, c45]) rfl ⟨.inl ⟨hok.out, _, rfl, ?_⟩, ?_⟩
      · rw [hV.out]
        unfold bodyV
        rw [if_pos hk.out]
        exact pItemN.nil _ _ _ _ _ _ _
      · iterate 6 (refine Below.setCell ?_ (by exact Nat.le_refl _) _)
        exact hbw
    · obtain ⟨wn, hwn⟩ : ∃ x, 0 + wordN t = x := ⟨_, rfl⟩
      rw [hwn] at he
      subst he
      have hbw := chain hbw0 hb1
      go_wp2_with fail
      refine (hnm.out _).mono ?_
      rintro e w2 ⟨⟨hok, x, rfl⟩ | ⟨hno, xa, xb, xc, he⟩, hb2⟩
      · obtain ⟨bh, hbh⟩ : ∃ x, numB t = x := ⟨_, rfl⟩
        obtain ⟨ex, hex⟩ : ∃ x, expV 1125899906842624 (numR t) = x := ⟨_, rfl⟩
        obtain ⟨kk, hkk⟩ : ∃ x, ex - (bh : Int) = x := ⟨_, rfl⟩
        have hexb := expV_bound 1125899906842624 (numR t)
        have hbhb : bh ≤ l.length := by rw [← hbh]; exact Nat.le_trans (numB_le t) htl
        rw [hex] at hexb
        rw [hbh, hex]
        have hwk : IntKind.i64.wrap (ex - (bh : Int)) = kk := by rw [hkk]; simp [IntKind.wrap, IntKind.bits, IntKind.signed]; omega
        have hit := fun w => sitem_any (numD t) (numD_digs t) (Nat.le_trans (numD_le t) (by omega)) kk (by omega) w
        have hbw2 := chain hbw hb2
        replace hit := Lib.hid hit
        replace hexb := Lib.hid hexb
        replace hkk := Lib.hid hkk
        go_wp2_with fail
        refine (hit.out _).mono ?_
        rintro e w3 ⟨v, rfl, ⟨A3, c3, zs, rfl, r1, r2, r3, r4, r5, r6⟩, hb3⟩
        have hb13 : Below (w.heap.size + 1) (w.alloc (.cells #[.int .i64 0, .bool false, .slice none 0 0, .int .i64 0, .int .i64 0, .bool false] 63)) w3 := by
          have h1 : Below (w.alloc (.cells #[.int .i64 0, .bool false, .slice none 0 0, .int .i64 0, .int .i64 0, .bool false] 63)).heap.size (w.alloc (.cells #[.int .i64 0, .bool false, .slice none 0 0, .int .i64 0, .int .i64 0, .bool false] 63)) w3 := chain (chain hb1 hb2) hb3
          simpa using h1
        have hz3 : w.heap.size < w2.heap.size := by
          have h1 := (chain hb1 hb2).size
          simp at h1
          omega
        have hz4 : w2.heap.size ≤ w3.heap.size := hb3.size
        obtain ⟨it, hit2⟩ : ∃ x, itemV false (numD t) kk = x := ⟨_, rfl⟩
        rw [hit2] at r5 ⊢
        have hneI : textV 1125899906842624 l = ⟨it.kind, false, it.d, it.k, it.big, it.cut⟩ := by
          rw [hV.out]
          unfold bodyV
          rw [if_neg (by simp [hk]), hex, hbh, hkk.out, itemV_neg, hit2]
        have hokT : (textS l).1 = true := by rw [hS1.out]; unfold bodyS; rw [if_neg (by simp [hk])]; exact hok
        have hbw3 := chain hbw2 hb3
        have f4 : ∀ o, w3.frozen? ⟨w.heap.size, o, none⟩ = false := fun o => by rw [hb13.frozen (p := ⟨w.heap.size, o, none⟩) (by show w.heap.size < _; simp)]; simp
        have c40 : w3.cell? ⟨w.heap.size, 0, none⟩ = some (.int .i64 0) := by rw [hb13.cell (p := ⟨w.heap.size, 0, none⟩) (by show w.heap.size < _; simp)]; simp
        have c41 : w3.cell? ⟨w.heap.size, 1, none⟩ = some (.bool false) := by rw [hb13.cell (p := ⟨w.heap.size, 1, none⟩) (by show w.heap.size < _; simp)]; simp
        have c42 : w3.cell? ⟨w.heap.size, 2, none⟩ = some (.slice none 0 0) := by rw [hb13.cell (p := ⟨w.heap.size, 2, none⟩) (by show w.heap.size < _; simp)]; simp
        have c43 : w3.cell? ⟨w.heap.size, 3, none⟩ = some (.int .i64 0) := by rw [hb13.cell (p := ⟨w.heap.size, 3, none⟩) (by show w.heap.size < _; simp)]; simp
        have c44 : w3.cell? ⟨w.heap.size, 4, none⟩ = some (.int .i64 0) := by rw [hb13.cell (p := ⟨w.heap.size, 4, none⟩) (by show w.heap.size < _; simp)]; simp
        have c45 : w3.cell? ⟨w.heap.size, 5, none⟩ = some (.bool false) := by rw [hb13.cell (p := ⟨w.heap.size, 5, none⟩) (by show w.heap.size < _; simp)]; simp
        have hz5 : w.heap.size < w3.heap.size := by omega
        replace hit2 := Lib.hid hit2
        replace hneI := Lib.hid hneI
        replace hokT := Lib.hid hokT
        clear hb13 hb1 hb2 hb3
        go_wp2
        refine bodyPost_ret (v := .tuple #[.agg #[.int .i64 (it.kind : Nat), .bool false, .slice A3 zs.length c3, .int .i64 it.k, .int .i64 it.big, .bool it.cut], .int .i64 0, .int .i64 0]) (by simp [results, Tryz.results34, go_sem, c40, c41, c42, c43, c44, c45, hz5]) rfl ⟨.inl ⟨hokT.out, _, rfl, ?_⟩, ?_⟩
        · rw [hneI.out]
          refine ⟨A3, c3, zs, rfl, ?_, r2, r3, r4, r5, r6.imp id (fun ⟨b, off, e, h⟩ => ⟨b, off, e, by omega⟩)⟩
          refine RdU.more (B := w3.heap.size) (RdU.alloc ?_ (by simp) _) (by simp)
          iterate 6 (refine RdU.apart ?_ r6 (by show w.heap.size < _; omega))
          exact r1
        · refine Below.alloc ?_ (by simp; omega) _
          iterate 6 (refine Below.setCell ?_ (by exact Nat.le_refl _) _)
          exact hbw3
      · obtain ⟨pn, hpn⟩ : ∃ x, 0 + (numS t).2 = x := ⟨_, rfl⟩
        rw [hpn] at he
        subst he
        have hmx : max (wn : Int) (pn : Int) = (((textS l).2 : Nat) : Int) := by
          rw [hS2.out]
          unfold bodyS
          rw [if_neg (by simp [hk])]
          show _ = (((0 + max (wordN t) (numS t).2 : Nat)) : Int)
          omega
        have hnoT : (textS l).1 = false := by rw [hS1.out]; unfold bodyS; rw [if_neg (by simp [hk])]; exact hno
        have hb12 : Below (w.heap.size + 1) (w.alloc (.cells #[.int .i64 0, .bool false, .slice none 0 0, .int .i64 0, .int .i64 0, .bool false] 63)) w2 := by
          have h1 : Below (w.alloc (.cells #[.int .i64 0, .bool false, .slice none 0 0, .int .i64 0, .int .i64 0, .bool false] 63)).heap.size (w.alloc (.cells #[.int .i64 0, .bool false, .slice none 0 0, .int .i64 0, .int .i64 0, .bool false] 63)) w2 := chain hb1 hb2
          simpa using h1
        have f4 : ∀ o, w2.frozen? ⟨w.heap.size, o, none⟩ = false := fun o => by rw [hb12.frozen (p := ⟨w.heap.size, o, none⟩) (by show w.heap.size < _; simp)]; simp
        have c40 : w2.cell? ⟨w.heap.size, 0, none⟩ = some (.int .i64 0) := by rw [hb12.cell (p := ⟨w.heap.size, 0, none⟩) (by show w.heap.size < _; simp)]; simp
        have c41 : w2.cell? ⟨w.heap.size, 1, none⟩ = some (.bool false) := by rw [hb12.cell (p := ⟨w.heap.size, 1, none⟩) (by show w.heap.size < _; simp)]; simp
        have c42 : w2.cell? ⟨w.heap.size, 2, none⟩ = some (.slice none 0 0) := by rw [hb12.cell (p := ⟨w.heap.size, 2, none⟩) (by show w.heap.size < _; simp)]; simp
        have c43 : w2.cell? ⟨w.heap.size, 3, none⟩ = some (.int .i64 0) := by rw [hb12.cell (p := ⟨w.heap.size, 3, none⟩) (by show w.heap.size < _; simp)]; simp
        have c44 : w2.cell? ⟨w.heap.size, 4, none⟩ = some (.int .i64 0) := by rw [hb12.cell (p := ⟨w.heap.size, 4, none⟩) (by show w.heap.size < _; simp)]; simp
        have c45 : w2.cell? ⟨w.heap.size, 5, none⟩ = some (.bool false) := by rw [hb12.cell (p := ⟨w.heap.size, 5, none⟩) (by show w.heap.size < _; simp)]; simp
        have hbw2 := chain hbw hb2
        replace hnoT := Lib.hid hnoT
        clear hb12 hb1 hb2
        go_wp2
        refine bodyPost_ret (v := .tuple #[itemNo, .int .i64 ((textS l).2 : Nat), .int .i64 2]) (by simp [results, Tryz.results34, go_sem, c40, c41, c42, c43, c44, c45, itemNo]) rfl ⟨.inr ⟨hnoT.out, rfl⟩, ?_⟩
        iterate 6 (refine Below.setCell ?_ (by exact Nat.le_refl _) _)
        exact hbw2
  · obtain rfl : f = 1 := by simp at hfi; omega
    clear hfi
    go_enter Tryz.func34, Tryz.ntmps34
    go_wp2_with fail
    refine (hpx.out _).mono ?_
    rintro e w1 ⟨rfl, rfl⟩
    go_wp2_with fail
    refine (hwd.out _).mono ?_
    rintro e w1 ⟨⟨hk, rfl⟩ | ⟨hk, he⟩, hb1⟩
    · have hb1' : Below (w.heap.size + 1) (w.alloc (.cells #[.int .i64 0, .bool false, .slice none 0 0, .int .i64 0, .int .i64 0, .bool false] 63)) w1 := by simpa using hb1
      have f4 : ∀ o, w1.frozen? ⟨w.heap.size, o, none⟩ = false := fun o => by rw [hb1'.frozen (p := ⟨w.heap.size, o, none⟩) (by show w.heap.size < _; simp)]; simp
      have c40 : w1.cell? ⟨w.heap.size, 0, none⟩ = some (.int .i64 0) := by rw [hb1'.cell (p := ⟨w.heap.size, 0, none⟩) (by show w.heap.size < _; simp)]; simp
      have c41 : w1.cell? ⟨w.heap.size, 1, none⟩ = some (.bool false) := by rw [hb1'.cell (p := ⟨w.heap.size, 1, none⟩) (by show w.heap.size < _; simp)]; simp
      have c42 : w1.cell? ⟨w.heap.size, 2, none⟩ = some (.slice none 0 0) := by rw [hb1'.cell (p := ⟨w.heap.size, 2, none⟩) (by show w.heap.size < _; simp)]; simp
      have c43 : w1.cell? ⟨w.heap.size, 3, none⟩ = some (.int .i64 0) := by rw [hb1'.cell (p := ⟨w.heap.size, 3, none⟩) (by show w.heap.size < _; simp)]; simp
      have c44 : w1.cell? ⟨w.heap.size, 4, none⟩ = some (.int .i64 0) := by rw [hb1'.cell (p := ⟨w.heap.size, 4, none⟩) (by show w.heap.size < _; simp)]; simp
      have c45 : w1.cell? ⟨w.heap.size, 5, none⟩ = some (.bool false) := by rw [hb1'.cell (p := ⟨w.heap.size, 5, none⟩) (by show w.heap.size < _; simp)]; simp
      have hbw := chain hbw0 hb1
      have hok : (textS l).1 = true := by rw [hS1.out]; unfold bodyS; rw [if_pos hk]
      replace hk := Lib.hid hk
      replace hok := Lib.hid hok
      clear hb1 hb1'
      go_wp2
      refine bodyPost_ret (v := .tuple #[.agg #[.int .i64 (wordK t : Nat), .bool true, .slice none 0 0, .int .i64 0, .int .i64 0, .bool false], .int .i64 0, .int .i64 0]) (by simp [results, Tryz.results34, go_sem, c40, c41, c42, c43, c44, c45]) rfl ⟨.inl ⟨hok.out, _, rfl, ?_⟩, ?_⟩
      · rw [hV.out]
        unfold bodyV
        rw [if_pos hk.out]
        exact pItemN.nil _ _ _ _ _ _ _
      · iterate 6 (refine Below.setCell ?_ (by exact Nat.le_refl _) _)
        exact hbw
    · obtain ⟨wn, hwn⟩ : ∃ x, 1 + wordN t = x := ⟨_, rfl⟩
      rw [hwn] at he
      subst he
      have hbw := chain hbw0 hb1
      go_wp2_with fail
      refine (hnm.out _).mono ?_
      rintro e w2 ⟨⟨hok, x, rfl⟩ | ⟨hno, xa, xb, xc, he⟩, hb2⟩
      · obtain ⟨bh, hbh⟩ : ∃ x, numB t = x := ⟨_, rfl⟩
        obtain ⟨ex, hex⟩ : ∃ x, expV 1125899906842624 (numR t) = x := ⟨_, rfl⟩
        obtain ⟨kk, hkk⟩ : ∃ x, ex - (bh : Int) = x := ⟨_, rfl⟩
        have hexb := expV_bound 1125899906842624 (numR t)
        have hbhb : bh ≤ l.length := by rw [← hbh]; exact Nat.le_trans (numB_le t) htl
        rw [hex] at hexb
        rw [hbh, hex]
        have hwk : IntKind.i64.wrap (ex - (bh : Int)) = kk := by rw [hkk]; simp [IntKind.wrap, IntKind.bits, IntKind.signed]; omega
        have hit := fun w => sitem_any (numD t) (numD_digs t) (Nat.le_trans (numD_le t) (by omega)) kk (by omega) w
        have hbw2 := chain hbw hb2
        replace hit := Lib.hid hit
        replace hexb := Lib.hid hexb
        replace hkk := Lib.hid hkk
        go_wp2_with fail
        refine (hit.out _).mono ?_
        rintro e w3 ⟨v, rfl, ⟨A3, c3, zs, rfl, r1, r2, r3, r4, r5, r6⟩, hb3⟩
        have hb13 : Below (w.heap.size + 1) (w.alloc (.cells #[.int .i64 0, .bool false, .slice none 0 0, .int .i64 0, .int .i64 0, .bool false] 63)) w3 := by
          have h1 : Below (w.alloc (.cells #[.int .i64 0, .bool false, .slice none 0 0, .int .i64 0, .int .i64 0, .bool false] 63)).heap.size (w.alloc (.cells #[.int .i64 0, .bool false, .slice none 0 0, .int .i64 0, .int .i64 0, .bool false] 63)) w3 := chain (chain hb1 hb2) hb3
          simpa using h1
        have hz3 : w.heap.size < w2.heap.size := by
          have h1 := (chain hb1 hb2).size
          simp at h1
          omega
        have hz4 : w2.heap.size ≤ w3.heap.size := hb3.size
        obtain ⟨it, hit2⟩ : ∃ x, itemV false (numD t) kk = x := ⟨_, rfl⟩
        rw [hit2] at r5 ⊢
        have hneI : textV 1125899906842624 l = ⟨it.kind, true, it.d, it.k, it.big, it.cut⟩ := by
          rw [hV.out]
          unfold bodyV
          rw [if_neg (by simp [hk]), hex, hbh, hkk.out, itemV_neg, hit2]
        have hokT : (textS l).1 = true := by rw [hS1.out]; unfold bodyS; rw [if_neg (by simp [hk])]; exact hok
        have hbw3 := chain hbw2 hb3
        have f4 : ∀ o, w3.frozen? ⟨w.heap.size, o, none⟩ = false := fun o => by rw [hb13.frozen (p := ⟨w.heap.size, o, none⟩) (by show w.heap.size < _; simp)]; simp
        have c40 : w3.cell? ⟨w.heap.size, 0, none⟩ = some (.int .i64 0) := by rw [hb13.cell (p := ⟨w.heap.size, 0, none⟩) (by show w.heap.size < _; simp)]; simp
        have c41 : w3.cell? ⟨w.heap.size, 1, none⟩ = some (.bool false) := by rw [hb13.cell (p := ⟨w.heap.size, 1, none⟩) (by show w.heap.size < _; simp)]; simp
        have c42 : w3.cell? ⟨w.heap.size, 2, none⟩ = some (.slice none 0 0) := by rw [hb13.cell (p := ⟨w.heap.size, 2, none⟩) (by show w.heap.size < _; simp)]; simp
        have c43 : w3.cell? ⟨w.heap.size, 3, none⟩ = some (.int .i64 0) := by rw [hb13.cell (p := ⟨w.heap.size, 3, none⟩) (by show w.heap.size < _; simp)]; simp
        have c44 : w3.cell? ⟨w.heap.size, 4, none⟩ = some (.int .i64 0) := by rw [hb13.cell (p := ⟨w.heap.size, 4, none⟩) (by show w.heap.size < _; simp)]; simp
        have c45 : w3.cell? ⟨w.heap.size, 5, none⟩ = some (.bool false) := by rw [hb13.cell (p := ⟨w.heap.size, 5, none⟩) (by show w.heap.size < _; simp)]; simp
        have hz5 : w.heap.size < w3.heap.size := by omega
        replace hit2 := Lib.hid hit2
        replace hneI := Lib.hid hneI
        replace hokT := Lib.hid hokT
        clear hb13 hb1 hb2 hb3
        go_wp2
        refine bodyPost_ret (v := .tuple #[.agg #[.int .i64 (it.kind : Nat), .bool true, .slice A3 zs.length c3, .int .i64 it.k, .int .i64 it.big, .bool it.cut], .int .i64 0, .int .i64 0]) (by simp [results, Tryz.results34, go_sem, c40, c41, c42, c43, c44, c45, hz5]) rfl ⟨.inl ⟨hokT.out, _, rfl, ?_⟩, ?_⟩
        · rw [hneI.out]
          refine ⟨A3, c3, zs, rfl, ?_, r2, r3, r4, r5, r6.imp id (fun ⟨b, off, e, h⟩ => ⟨b, off, e, by omega⟩)⟩
          refine RdU.more (B := w3.heap.size) (RdU.alloc ?_ (by simp) _) (by simp)
          iterate 6 (refine RdU.apart ?_ r6 (by show w.heap.size < _; omega))
          exact r1
        · refine Below.alloc ?_ (by simp; omega) _
          iterate 6 (refine Below.setCell ?_ (by exact Nat.le_refl _) _)
          exact hbw3
      · obtain ⟨pn, hpn⟩ : ∃ x, 1 + (numS t).2 = x := ⟨_, rfl⟩
        rw [hpn] at he
        subst he
        have hmx : max (wn : Int) (pn : Int) = (((textS l).2 : Nat) : Int) := by
          rw [hS2.out]
          unfold bodyS
          rw [if_neg (by simp [hk])]
          show _ = (((1 + max (wordN t) (numS t).2 : Nat)) : Int)
          omega
        have hnoT : (textS l).1 = false := by rw [hS1.out]; unfold bodyS; rw [if_neg (by simp [hk])]; exact hno
        have hb12 : Below (w.heap.size + 1) (w.alloc (.cells #[.int .i64 0, .bool false, .slice none 0 0, .int .i64 0, .int .i64 0, .bool false] 63)) w2 := by
          have h1 : Below (w.alloc (.cells #[.int .i64 0, .bool false, .slice none 0 0, .int .i64 0, .int .i64 0, .bool false] 63)).heap.size (w.alloc (.cells #[.int .i64 0, .bool false, .slice none 0 0, .int .i64 0, .int .i64 0, .bool false] 63)) w2 := chain hb1 hb2
          simpa using h1
        have f4 : ∀ o, w2.frozen? ⟨w.heap.size, o, none⟩ = false := fun o => by rw [hb12.frozen (p := ⟨w.heap.size, o, none⟩) (by show w.heap.size < _; simp)]; simp
        have c40 : w2.cell? ⟨w.heap.size, 0, none⟩ = some (.int .i64 0) := by rw [hb12.cell (p := ⟨w.heap.size, 0, none⟩) (by show w.heap.size < _; simp)]; simp
        have c41 : w2.cell? ⟨w.heap.size, 1, none⟩ = some (.bool false) := by rw [hb12.cell (p := ⟨w.heap.size, 1, none⟩) (by show w.heap.size < _; simp)]; simp
        have c42 : w2.cell? ⟨w.heap.size, 2, none⟩ = some (.slice none 0 0) := by rw [hb12.cell (p := ⟨w.heap.size, 2, none⟩) (by show w.heap.size < _; simp)]; simp
        have c43 : w2.cell? ⟨w.heap.size, 3, none⟩ = some (.int .i64 0) := by rw [hb12.cell (p := ⟨w.heap.size, 3, none⟩) (by show w.heap.size < _; simp)]; simp
        have c44 : w2.cell? ⟨w.heap.size, 4, none⟩ = some (.int .i64 0) := by rw [hb12.cell (p := ⟨w.heap.size, 4, none⟩) (by show w.heap.size < _; simp)]; simp
        have c45 : w2.cell? ⟨w.heap.size, 5, none⟩ = some (.bool false) := by rw [hb12.cell (p := ⟨w.heap.size, 5, none⟩) (by show w.heap.size < _; simp)]; simp
        have hbw2 := chain hbw hb2
        replace hnoT := Lib.hid hnoT
        clear hb12 hb1 hb2
        go_wp2
        refine bodyPost_ret (v := .tuple #[itemNo, .int .i64 ((textS l).2 : Nat), .int .i64 2]) (by simp [results, Tryz.results34, go_sem, c40, c41, c42, c43, c44, c45, itemNo]) rfl ⟨.inr ⟨hnoT.out, rfl⟩, ?_⟩
        iterate 6 (refine Below.setCell ?_ (by exact Nat.le_refl _) _)
        exact hbw2
end Go.Proofs.YtncfbleeidjflaaGreatDoor
namespace Go.Proofs.YtncfbleeidjflaaGreatDoor
open Go.RowKit Go.Cal
/-- What '[]byte(s)' lays, read. -/
theorem rd_bytes (w : World) (l : List UInt8) (n : Nat) (fr : Nat × Nat) : RdB (w.drew.alloc (.cells (bytesRow (strL l) n) 5 fr)) (w.heap.size + 1) (some ⟨w.heap.size, 0, none⟩) l := by
  refine ⟨.inr ⟨_, _, rfl, by omega⟩, fun b off e i hi => ?_⟩
  injection e with e
  injection e with e1 e2
  subst e1; subst e2
  have h1 : (w.drew.alloc (.cells (bytesRow (strL l) n) 5 fr)).cell? ⟨w.drew.heap.size, 0 + i, none⟩ = (bytesRow (strL l) n)[0 + i]? := World.cell?_alloc_mark _ _ _ _ _
  have h2 : w.drew.heap.size = w.heap.size := rfl
  rw [h2] at h1
  rw [h1, Nat.zero_add]
  have hs : i < (strL l).data.size := by show i < l.toArray.size; simpa using hi
  rw [bytesRow_at _ _ _ hs]
  have : (strL l).data[i] = l.getD i 0 := by
    show l.toArray[i]'_ = _
    simp [List.getD_eq_getElem?_getD, hi]
    rfl
  rw [this]
end Go.Proofs.YtncfbleeidjflaaGreatDoor
namespace Go.Proofs.YtncfbleeidjflaaGreatDoor
open Go.RowKit Go.Cal
/-- A block that a walk has made. -/
def pBlk (g : Nat) (cs : Array Value) (t : TypeId) (w : World) : Prop := w.heap[g]? = some (.cells cs t (0, 0))
theorem pBlk_st (g : Nat) (cs : Array Value) (t : TypeId) : Stable (pBlk g cs t) := fun w w' h hb => by
  have hlt := (Array.getElem?_eq_some_iff.1 h).1
  exact (hb.block g hlt).trans h
theorem pBlk_made (w : World) (cs : Array Value) (t : TypeId) : pBlk w.heap.size cs t (w.alloc (.cells cs t)) := heap_alloc_new w _
theorem pBlk.cell {g : Nat} {cs : Array Value} {t : TypeId} {w : World} (h : pBlk g cs t w) (i : Nat) (v : Value) (hv : cs[i]? = some v) : w.cell? ⟨g, i, none⟩ = some v := by
  rw [cell_of_row w g i cs t (0, 0) h, hv]
theorem stext_t {w : World} {v1 : Value} {k1 X : Nat} (hT : Tab10 w) (h : IsN w v1 k1 X) (b1 : k1 ≤ 1048576) :
    Calls Tryz.prog 42 #[v1] w fun e w' => e = .returned (.string ⟨(Lib.decDigits X).toArray⟩) ∧ Below w.heap.size w w' := by
  obtain ⟨A1, c1, z1, rfl, r1, hc1, hl1, d1, rfl⟩ := h
  exact text_any c1 w r1 hc1 (by omega) d1 hT
end Go.Proofs.YtncfbleeidjflaaGreatDoor
namespace Go.Proofs.YtncfbleeidjflaaGreatDoor
open Go.RowKit Go.Cal
/-- A slice of bytes that is the walk's own: from its first cell on, no cell of it barred. -/
structure OwnB (w : World) (base g cap : Nat) (l : List UInt8) : Prop where
  base : base ≤ g
  lt : g < w.heap.size
  len : l.length ≤ cap
  capb : cap ≤ maxLen
  cells : ∀ i, i < l.length → w.cell? ⟨g, i, none⟩ = some (.int .u8 (((l.getD i 0).toNat : Nat) : Int))
  some : ∀ i, i < cap → (w.cell? ⟨g, i, none⟩).isSome = true
  free : ∀ i, i < cap → w.frozen? ⟨g, i, none⟩ = false
theorem OwnB.rd {w : World} {base g cap : Nat} {l : List UInt8} (h : OwnB w base g cap l) : RdB w w.heap.size (Option.some ⟨g, 0, none⟩) l := by
  refine ⟨.inr ⟨_, _, rfl, h.lt⟩, fun b off e i hi => ?_⟩
  injection e with e
  injection e with e1 e2
  subst e1; subst e2
  rw [Nat.zero_add]
  exact h.cells i hi
theorem OwnB.below {w w' : World} {base g cap : Nat} {l : List UInt8} (h : OwnB w base g cap l) (hb : Below w.heap.size w w') : OwnB w' base g cap l :=
  ⟨h.base, Nat.lt_of_lt_of_le h.lt hb.size, h.len, h.capb, fun i hi => by rw [(bcell hb).1 _ _ h.lt]; exact h.cells i hi, fun i hi => by rw [(bcell hb).1 _ _ h.lt]; exact h.some i hi, fun i hi => by rw [(bcell hb).2 _ _ h.lt]; exact h.free i hi⟩
theorem OwnB.alloc {w : World} {base g cap : Nat} {l : List UInt8} (h : OwnB w base g cap l) (o : Obj) : OwnB (w.alloc o) base g cap l := h.below ((Below.refl _ _).alloc (Nat.le_refl _) o)
theorem OwnB.drew {w : World} {base g cap : Nat} {l : List UInt8} (h : OwnB w base g cap l) : OwnB w.drew base g cap l := ⟨h.base, h.lt, h.len, h.capb, h.cells, h.some, h.free⟩
/-- The beginning of a slice of bytes. -/
theorem RdB.take {w : World} {B : Nat} {A : Option Addr} {l : List UInt8} (h : RdB w B A l) (n : Nat) : RdB w B A (l.take n) := by
  rcases h.place with rfl | ⟨b, off, e, hb⟩
  · exact ⟨.inl List.take_nil, fun _ _ _ i hi => by simp at hi⟩
  · refine ⟨.inr ⟨b, off, e, hb⟩, fun b' off' e' i hi => ?_⟩
    have hi' : i < l.length ∧ i < n := by rw [List.length_take] at hi; omega
    rw [h.cells b' off' e' i hi'.1]
    simp [List.getD_eq_getElem?_getD, hi'.2]
theorem RdB.more {w : World} {B B' : Nat} {A : Option Addr} {l : List UInt8} (h : RdB w B A l) (hb : B ≤ B') : RdB w B' A l :=
  ⟨h.place.imp id (fun ⟨b, off, e, hl⟩ => ⟨b, off, e, Nat.lt_of_lt_of_le hl hb⟩), h.cells⟩
/-- A slice of bytes that came in. -/
def ArgB (w : World) (v : Value) : Prop := ∃ A c l, v = .slice A (l : List UInt8).length c ∧ RdB w w.heap.size A l ∧ (A = none → c = 0) ∧ l.length ≤ c ∧ c ≤ maxLen
/-- The beginning of it. -/
theorem ArgB.cut {w : World} {v : Value} (h : ArgB w v) (n : Nat) : ∃ A c k l, v = .slice A k c ∧ RdB w w.heap.size A l ∧ (min (k : Int) (n : Int) = ((l : List UInt8).length : Int)) ∧ ((l.length : Nat) : Int) ≤ c ∧ c ≤ maxLen ∧ l.length ≤ n := by
  obtain ⟨A, c, l, rfl, h1, h2, h3, h4⟩ := h
  have hl : (l.take n).length = min n l.length := List.length_take
  exact ⟨A, c, l.length, l.take n, rfl, h1.take n, by omega, by omega, h4, by omega⟩
theorem pItemN.setCell {base : Nat} {v : Value} {it : Cal.Item} {w : World} {p : Addr} (u : Value) (h : pItemN base v it w) (hp : p.block < base) : pItemN base v it (w.setCell p u) := by
  obtain ⟨A, c, zs, e, h1, h2, h3, h4, h5, h6⟩ := h
  refine ⟨A, c, zs, e, ?_, h2, h3, h4, h5, h6⟩
  rw [size_setCell]
  exact RdU.apart h1 h6 hp
theorem pItem_again {kd : Int} {ng : Bool} {d : Value} {k : Int} {bg : Int} {ct : Bool} {it : Cal.Item} {w : World} (h : pItem (.agg #[.int .i64 kd, .bool ng, d, .int .i64 k, .int .i64 bg, .bool ct]) it w) : IsT w d 2000 it.d := by
  obtain ⟨d', e, hd⟩ := h
  injection e with e
  have := congrArg (fun a => a[2]?) e
  simp at this
  rw [this]
  exact hd
/-- Scan, of bytes that are a text. -/
theorem scan_yes {A : Option Addr} {c : Nat} (l : List UInt8) (it : Cal.Item) (n : Nat) (hok : (textS l).1 = true) (hit : textV 1125899906842624 l = it) (hn : l.length = n) (hl : n ≤ 1000000) (w : World) (hr : RdB w w.heap.size A l) : Calls Tryz.prog 34 #[.slice A n c] w fun e w' =>
    ∃ A' n' c', e = .returned (.tuple #[.agg #[.int .i64 (it.kind : Nat), .bool it.neg, .slice A' n' c', .int .i64 it.k, .int .i64 it.big, .bool it.cut], .int .i64 0, .int .i64 0]) ∧ pItemN w.heap.size (.agg #[.int .i64 (it.kind : Nat), .bool it.neg, .slice A' n' c', .int .i64 it.k, .int .i64 it.big, .bool it.cut]) it w' ∧ Below w.heap.size w w' := by
  subst hn; subst hit
  refine (scan_any l c w hr (by omega)).mono ?_
  rintro e w' ⟨⟨_, v, rfl, hv⟩ | ⟨hno, _⟩, hb⟩
  · obtain ⟨A', c', zs, rfl, h⟩ := id hv
    exact ⟨_, _, _, rfl, hv, hb⟩
  · rw [hok] at hno; cases hno
/-- Scan, of bytes that are none. -/
theorem scan_no {A : Option Addr} {c : Nat} (l : List UInt8) (p n : Nat) (hok : (textS l).1 = false) (hp : (textS l).2 = p) (hn : l.length = n) (hl : n ≤ 1000000) (w : World) (hr : RdB w w.heap.size A l) : Calls Tryz.prog 34 #[.slice A n c] w fun e w' =>
    e = .returned (.tuple #[.agg #[.int .i64 0, .bool false, .slice none 0 0, .int .i64 0, .int .i64 0, .bool false], .int .i64 p, .int .i64 2]) ∧ Below w.heap.size w w' := by
  subst hn; subst hp
  refine (scan_any l c w hr (by omega)).mono ?_
  rintro e w' ⟨⟨hy, _⟩ | ⟨_, rfl⟩, hb⟩
  · rw [hok] at hy; cases hy
  · exact ⟨rfl, hb⟩
theorem pBlk.free {g : Nat} {cs : Array Value} {t : TypeId} {w : World} (h : pBlk g cs t w) (i : Nat) : w.frozen? ⟨g, i, none⟩ = false := by
  unfold pBlk at h
  simp [World.frozen?, h]
theorem pBlk.lt {g : Nat} {cs : Array Value} {t : TypeId} {w : World} (h : pBlk g cs t w) : g < w.heap.size := (Array.getElem?_eq_some_iff.1 h).1
end Go.Proofs.YtncfbleeidjflaaGreatDoor
