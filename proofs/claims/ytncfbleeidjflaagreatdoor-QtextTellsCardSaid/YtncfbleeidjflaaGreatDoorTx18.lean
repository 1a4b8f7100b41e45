/- Scan, third part: what a number of digits is. Conditions: a text's reach. -/
import Derived.Test.YtncfbleeidjflaaGreatDoorTx16
import Derived.Test.YtncfbleeidjflaaGreatDoorTx07
namespace Go.Proofs.YtncfbleeidjflaaGreatDoor
open Go.RowKit Go.Cal
/-- The value is this item. -/
def pItem (v : Value) (it : Cal.Item) (w : World) : Prop :=
  ∃ d, v = .agg #[.int .i64 (it.kind : Nat), .bool it.neg, d, .int .i64 it.k, .int .i64 it.big, .bool it.cut] ∧ IsT w d 2000 it.d
/-- As pItem; the digits lie in memory from block base on. -/
def pItemN (base : Nat) (v : Value) (it : Cal.Item) (w : World) : Prop :=
  ∃ (A : Option Addr) (c : Nat) (zs : List Nat), v = .agg #[.int .i64 (it.kind : Nat), .bool it.neg, .slice A zs.length c, .int .i64 it.k, .int .i64 it.big, .bool it.cut] ∧ RdU w w.heap.size A zs ∧ zs.length ≤ c ∧ c ≤ maxLen ∧ zs.length ≤ 2000 ∧ Nrm zs it.d ∧ (zs = [] ∨ ∃ b off, A = some ⟨b, off, none⟩ ∧ base ≤ b)
theorem pItemN.item {base : Nat} {v : Value} {it : Cal.Item} {w : World} (h : pItemN base v it w) : pItem v it w := by
  obtain ⟨A, c, zs, rfl, h1, h2, h3, h4, h5, h6⟩ := h
  exact ⟨_, rfl, A, c, zs, rfl, h1, h2, h3, h4, h5⟩
theorem pItemN.nil (base kind : Nat) (neg : Bool) (k big : Int) (cut : Bool) (w : World) : pItemN base (.agg #[.int .i64 (kind : Nat), .bool neg, .slice none 0 0, .int .i64 k, .int .i64 big, .bool cut]) ⟨kind, neg, 0, k, big, cut⟩ w :=
  ⟨none, 0, [], rfl, .nil, Nat.le_refl _, by unfold maxLen; omega, by simp, .zero, .inl rfl⟩
theorem ssize_alloc1 (w : World) (o : Obj) : (w.alloc o).heap.size = w.heap.size + 1 := by simp
theorem trimL_any (l : List UInt8) (w : World) : Calls Tryz.prog 163 #[.string (strL l), .string ⟨#[48]⟩] w fun e w' => e = .returned (.string (strL (trL l))) ∧ w = w' := by
  refine (Tryz.strings_TrimLeft_one (strL l) 48 (by decide) w).mono ?_
  rintro e w' ⟨rfl, rfl⟩
  refine ⟨?_, rfl⟩
  congr 3
theorem trimR_any (l : List UInt8) (hl : l.length ≤ maxLen) (w : World) : Calls Tryz.prog 50 #[.string (strL l), .string ⟨#[48]⟩] w fun e w' => e = .returned (.string (strL (trR l))) ∧ w = w' := by
  refine (Tryz.strings_TrimRight_one (strL l) 48 (by decide) w (by rw [strL_size]; exact hl)).mono ?_
  rintro e w' ⟨rfl, rfl⟩
  refine ⟨?_, rfl⟩
  congr 3
theorem size_setCell (w : World) (p : Addr) (u : Value) : (w.setCell p u).heap.size = w.heap.size := by simp [World.setCell]
theorem RdU.apart {w : World} {B base : Nat} {A : Option Addr} {zs : List Nat} {p : Addr} {u : Value} (h : RdU w B A zs) (hn : zs = [] ∨ ∃ b off, A = some ⟨b, off, none⟩ ∧ base ≤ b) (hp : p.block < base) : RdU (w.setCell p u) B A zs := by
  refine ⟨h.place, fun b off e i hi => ?_⟩
  rcases hn with rfl | ⟨b', off', e', hb⟩
  · simp at hi
  · rw [e] at e'
    injection e' with e'
    injection e' with e1 e2
    subst e1
    rw [World.cell?_setCell_other _ _ _ _ (fun e3 => by have := congrArg Addr.block e3; simp at this; omega)]
    exact h.cells b off e i hi
theorem parse_f (w : World) (s : ByteArray) (hs : POk s.data.toList) : Calls Tryz.prog 164 #[.string s] w fun e w' =>
    ∃ (A : Option Addr) (c : Nat) (zs : List Nat), e = .returned (.tuple #[.slice A zs.length c, .bool true]) ∧ RdU w' w'.heap.size A zs ∧ zs.length ≤ c ∧ c ≤ maxLen ∧ Nrm zs (numV s.data.toList) ∧ (zs = [] ∨ ∃ b off, A = some ⟨b, off, none⟩ ∧ w.heap.size ≤ b) ∧ Below w.heap.size w w' :=
  (parse_any s w hs).mono fun _ _ ⟨⟨A, c, zs, he, g, n⟩, hb⟩ => ⟨A, c, zs, he, g.rd, g.cap, g.small, n, g.own.imp id fun ⟨b, off, e, h, _⟩ => ⟨b, off, e, h⟩, hb⟩
theorem len_2000 {zs : List Nat} {N n k : Nat} (h : Nrm zs N) (hN : N < 10 ^ n) (hn : n ≤ k) : zs.length ≤ k := by
  refine h.length_le (Nat.lt_of_lt_of_le hN (Nat.le_trans (Nat.pow_le_pow_left (show 10 ≤ 18446744073709551616 by omega) n) (Nat.pow_le_pow_right (by omega) hn)))
theorem pOk_cut {b : List UInt8} (h3 : 1990 < b.length) (hd : ∀ c ∈ b, isDig c = true) (hh : b.head? ≠ some 48) : POk (strL (b.take 1990 ++ [49])).data.toList := by
  show POk (b.take 1990 ++ [49])
  have hl : (b.take 1990 ++ [49]).length = 1991 := by simp; omega
  refine ⟨by simp, by omega, fun e => ?_, dig_app (fun c hc => hd c (List.mem_of_mem_take hc)) (fun c hc => by simp at hc; subst hc; decide)⟩
  exfalso
  cases b with
  | nil => simp at h3
  | cons x b => exact hh (by simpa using e)
set_option maxRecDepth 100000 in
set_option maxHeartbeats 1000000 in
theorem sitem_any (ds : List UInt8) (hd : ∀ c ∈ ds, isDig c = true) (hl : ds.length ≤ 1099511627776) (k : Int) (hk : -4503599627370496 ≤ k ∧ k ≤ 4503599627370496) (w : World) :
    Calls Tryz.prog 88 #[.string (strL ds), .int .i64 k] w fun e w' => ∃ v, e = .returned v ∧ pItemN w.heap.size v (itemV false ds k) w' ∧ Below w.heap.size w w' := by
  obtain ⟨a, ha⟩ : ∃ a, trL ds = a := ⟨_, rfl⟩
  obtain ⟨b, hb⟩ : ∃ b, trR a = b := ⟨_, rfl⟩
  have htl := fun w => trimL_any ds w
  have htr := fun h w => trimR_any a h w
  have hla : a.length ≤ ds.length := by rw [← ha]; exact (trL_suffix ds).length_le
  have hlb : b.length ≤ a.length := by rw [← hb]; exact (trR_prefix a).length_le
  obtain ⟨k1, hk1⟩ : ∃ x, k + ((a.length : Int) - (b.length : Int)) = x := ⟨_, rfl⟩
  obtain ⟨tp, htp⟩ : ∃ x, (b.length : Int) + k1 - 1 = x := ⟨_, rfl⟩
  have hI : itemV false ds k = if b = [] then ⟨1, false, 0, 0, 0, false⟩ else if 1000 ≤ tp then ⟨1, false, 0, 0, 1, false⟩ else if tp < -1000 then ⟨1, false, 0, 0, -1, false⟩
      else if 1990 < b.length then ⟨1, false, numV (b.take 1990 ++ [49]), k1 + ((b.length : Int) - 1991), 0, true⟩ else ⟨1, false, numV b, k1, 0, false⟩ := by
    unfold itemV
    simp only [ha, hb, hk1, htp]
  have hbd : ∀ c ∈ b, isDig c = true := fun c hc => by
    have h1 : c ∈ a := (hb ▸ trR_prefix a : b <+: a).subset hc
    exact hd c ((ha ▸ trL_suffix ds : a <:+ ds).subset h1)
  have hbh : b ≠ [] → b.head? ≠ some 48 := fun h0 h => by
    obtain ⟨r, hr⟩ : ∃ r, a = b ++ r := by
      obtain ⟨r, hr⟩ := (hb ▸ trR_prefix a : b <+: a)
      exact ⟨r, hr.symm⟩
    have h1 := trL_head ds
    rw [ha, hr] at h1
    cases b with
    | nil => exact h0 rfl
    | cons x b => exact h1 (by simpa using h)
  rw [ha] at htl
  rw [hb] at htr
  replace htl := Lib.hid htl
  replace htr := Lib.hid htr
  replace hI := Lib.hid hI
  replace hbd := Lib.hid hbd
  replace hbh := Lib.hid hbh
  replace ha := Lib.hid ha
  replace hb := Lib.hid hb
  go_enter Tryz.func88, Tryz.ntmps88
  go_wp2_with fail
  refine (htl.out _).mono ?_
  rintro e w1 ⟨rfl, rfl⟩
  go_wp2_with fail
  refine (htr.out (by unfold maxLen; omega) _).mono ?_
  rintro e w1 ⟨rfl, rfl⟩
  have hsa := strL_size a
  have hsb := strL_size b
  have hE : (strL b).toList.isEmpty = b.isEmpty := by unfold strL; rw [ByteArray.toList_mk]
  have hbw : Below w.heap.size w ((w.alloc (.cells #[.int .i64 0, .bool false, .slice none 0 0, .int .i64 0, .int .i64 0, .bool false] 63)).alloc (.cells #[.int .i64 1, .bool false, .slice none 0 0, .int .i64 0, .int .i64 0, .bool false] 63)) := ((Below.refl _ _).alloc (Nat.le_refl _) _).alloc (by simp) _
  have hwk : IntKind.i64.wrap (k + ((a.length : Int) - (b.length : Int))) = k1 := by rw [hk1]; simp [IntKind.wrap, IntKind.bits, IntKind.signed]; omega
  have hwt : IntKind.i64.wrap ((b.length : Int) + k1) = (b.length : Int) + k1 := by simp [IntKind.wrap, IntKind.bits, IntKind.signed]; omega
  have hwt2 : IntKind.i64.wrap ((b.length : Int) + k1 - 1) = tp := by rw [htp]; simp [IntKind.wrap, IntKind.bits, IntKind.signed]; omega
  by_cases hb0 : b = []
  · have hE1 : (strL b).toList.isEmpty = true := by rw [hE, hb0]; rfl
    replace hb0 := Lib.hid hb0
    clear hE
    go_wp2
    refine bodyPost_ret (v := .agg #[.int .i64 1, .bool false, .slice none 0 0, .int .i64 0, .int .i64 0, .bool false]) (by simp [results, Tryz.results88, go_sem]) rfl ⟨_, rfl, ?_, ?_⟩
    · rw [hI.out, if_pos hb0.out]; exact pItemN.nil _ 1 false _ _ _ _
    · exact ((Below.refl _ _).alloc (Nat.le_refl _) _).alloc (by simp) _
  · have hE1 : (strL b).toList.isEmpty = false := by rw [hE]; simpa using hb0
    clear hE
    replace hb0 := Lib.hid hb0
    by_cases h1 : 1000 ≤ tp
    · go_wp2
      refine bodyPost_ret (v := .agg #[.int .i64 1, .bool false, .slice none 0 0, .int .i64 0, .int .i64 1, .bool false]) (by simp [results, Tryz.results88, go_sem]) rfl ⟨_, rfl, ?_, ?_⟩
      · rw [hI.out, if_neg hb0.out, if_pos h1]; exact pItemN.nil _ 1 false _ _ _ _
      · exact ((Below.refl _ _).alloc (Nat.le_refl _) _).alloc (by simp) _
    · by_cases h2 : tp < -1000
      · go_wp2
        refine bodyPost_ret (v := .agg #[.int .i64 1, .bool false, .slice none 0 0, .int .i64 0, .int .i64 (-1), .bool false]) (by simp [results, Tryz.results88, go_sem]) rfl ⟨_, rfl, ?_, ?_⟩
        · rw [hI.out, if_neg hb0.out, if_neg (by omega), if_pos (by omega)]; exact pItemN.nil _ 1 false _ _ _ _
        · exact ((Below.refl _ _).alloc (Nat.le_refl _) _).alloc (by simp) _
      · by_cases h3 : 1990 < b.length
        · have hP := pOk_cut (by omega) hbd.out (hbh.out hb0.out)
          have hpar := fun w => parse_f w (strL (b.take 1990 ++ [49])) hP
          have hext : (strL b).extract 0 1990 ++ ⟨#[49]⟩ = strL (b.take 1990 ++ [49]) := by
            unfold strL
            apply ByteArray.ext
            apply Array.toList_inj.1
            simp
          have hlen : (b.take 1990 ++ [49]).length ≤ 2000 := by simp; omega
          have hx1 : ((strL b).extract 0 1990).size = 1990 := by rw [ByteArray.size_extract, strL_size]; omega
          have hdc : ∀ c ∈ b.take 1990 ++ [49], isDig c = true := dig_app (fun c hc => hbd.out c (List.mem_of_mem_take hc)) (fun c hc => by simp at hc; subst hc; decide)
          have hkc : k1 + ((b.length : Int) - 1990 - 1) = k1 + ((b.length : Int) - 1991) := by omega
          have hbw0 : Below w.heap.size w ((w.alloc (.cells #[.int .i64 0, .bool false, .slice none 0 0, .int .i64 0, .int .i64 0, .bool false] 63)).alloc (.cells #[.int .i64 1, .bool false, .slice none 0 0, .int .i64 0, .int .i64 0, .bool true] 63)) := ((Below.refl _ _).alloc (Nat.le_refl _) _).alloc (by simp) _
          replace hpar := Lib.hid hpar
          replace hdc := Lib.hid hdc
          go_wp2_with fail
          refine (hpar.out _).mono ?_
          rintro e w2 ⟨A, c, zs, rfl, hr, h1c, h2c, hn, hnew, hb2⟩
          obtain ⟨hc, hf⟩ := bcell hb2
          simp only [ssize_alloc1] at hc hf
          have f4 : ∀ o, w2.frozen? ⟨w.heap.size, o, none⟩ = false := fun o => by rw [hf _ _ (by omega)]; simp
          have f5 : ∀ o, w2.frozen? ⟨w.heap.size + 1, o, none⟩ = false := fun o => by rw [hf _ _ (by omega)]; simp
          have c40 : w2.cell? ⟨w.heap.size, 0, none⟩ = some (.int .i64 0) := by rw [hc _ _ (by omega)]; simp
          have c41 : w2.cell? ⟨w.heap.size, 1, none⟩ = some (.bool false) := by rw [hc _ _ (by omega)]; simp
          have c42 : w2.cell? ⟨w.heap.size, 2, none⟩ = some (.slice none 0 0) := by rw [hc _ _ (by omega)]; simp
          have c43 : w2.cell? ⟨w.heap.size, 3, none⟩ = some (.int .i64 0) := by rw [hc _ _ (by omega)]; simp
          have c44 : w2.cell? ⟨w.heap.size, 4, none⟩ = some (.int .i64 0) := by rw [hc _ _ (by omega)]; simp
          have c45 : w2.cell? ⟨w.heap.size, 5, none⟩ = some (.bool false) := by rw [hc _ _ (by omega)]; simp
          have c50 : w2.cell? ⟨w.heap.size + 1, 0, none⟩ = some (.int .i64 1) := by rw [hc _ _ (by omega)]; simp
          have c51 : w2.cell? ⟨w.heap.size + 1, 1, none⟩ = some (.bool false) := by rw [hc _ _ (by omega)]; simp
          have c52 : w2.cell? ⟨w.heap.size + 1, 2, none⟩ = some (.slice none 0 0) := by rw [hc _ _ (by omega)]; simp
          have c53 : w2.cell? ⟨w.heap.size + 1, 3, none⟩ = some (.int .i64 0) := by rw [hc _ _ (by omega)]; simp
          have c54 : w2.cell? ⟨w.heap.size + 1, 4, none⟩ = some (.int .i64 0) := by rw [hc _ _ (by omega)]; simp
          have c55 : w2.cell? ⟨w.heap.size + 1, 5, none⟩ = some (.bool true) := by rw [hc _ _ (by omega)]; simp
          clear hc hf
          go_wp2
          refine bodyPost_ret (v := .agg #[.int .i64 1, .bool false, .slice A zs.length c, .int .i64 (k1 + ((b.length : Int) - 1991)), .int .i64 0, .bool true]) (by simp [results, Tryz.results88, go_sem, c40, c41, c42, c43, c44, c45]) rfl ⟨_, rfl, ?_, ?_⟩
          · rw [hI.out, if_neg hb0.out, if_neg (by omega), if_neg (by omega), if_pos (by omega)]
            refine ⟨A, c, zs, rfl, ?_, h1c, h2c, ?_, hn, hnew.imp id (fun ⟨b, off, e, h⟩ => ⟨b, off, e, by simp at h; omega⟩)⟩
            · simp only [size_setCell]
              repeat (refine RdU.apart ?_ hnew (by simp; try omega))
              exact hr
            · exact len_2000 hn (numV_lt _ hdc.out) hlen
          · have hb3 := chain hbw0 hb2
            repeat (refine Below.setCell ?_ (by first | exact Nat.le_refl _ | exact Nat.le_succ _) _)
            exact hb3
        · have hP : POk (strL b).data.toList := ⟨hb0.out, by show b.length ≤ 2000; omega, fun e => absurd e (hbh.out hb0.out), hbd.out⟩
          have hpar := fun w => parse_f w (strL b) hP
          have hbw0 : Below w.heap.size w ((w.alloc (.cells #[.int .i64 0, .bool false, .slice none 0 0, .int .i64 0, .int .i64 0, .bool false] 63)).alloc (.cells #[.int .i64 1, .bool false, .slice none 0 0, .int .i64 0, .int .i64 0, .bool false] 63)) := ((Below.refl _ _).alloc (Nat.le_refl _) _).alloc (by simp) _
          replace hpar := Lib.hid hpar
          go_wp2_with fail
          refine (hpar.out _).mono ?_
          rintro e w2 ⟨A, c, zs, rfl, hr, h1c, h2c, hn, hnew, hb2⟩
          obtain ⟨hc, hf⟩ := bcell hb2
          simp only [ssize_alloc1] at hc hf
          have f4 : ∀ o, w2.frozen? ⟨w.heap.size, o, none⟩ = false := fun o => by rw [hf _ _ (by omega)]; simp
          have f5 : ∀ o, w2.frozen? ⟨w.heap.size + 1, o, none⟩ = false := fun o => by rw [hf _ _ (by omega)]; simp
          have c40 : w2.cell? ⟨w.heap.size, 0, none⟩ = some (.int .i64 0) := by rw [hc _ _ (by omega)]; simp
          have c41 : w2.cell? ⟨w.heap.size, 1, none⟩ = some (.bool false) := by rw [hc _ _ (by omega)]; simp
          have c42 : w2.cell? ⟨w.heap.size, 2, none⟩ = some (.slice none 0 0) := by rw [hc _ _ (by omega)]; simp
          have c43 : w2.cell? ⟨w.heap.size, 3, none⟩ = some (.int .i64 0) := by rw [hc _ _ (by omega)]; simp
          have c44 : w2.cell? ⟨w.heap.size, 4, none⟩ = some (.int .i64 0) := by rw [hc _ _ (by omega)]; simp
          have c45 : w2.cell? ⟨w.heap.size, 5, none⟩ = some (.bool false) := by rw [hc _ _ (by omega)]; simp
          have c50 : w2.cell? ⟨w.heap.size + 1, 0, none⟩ = some (.int .i64 1) := by rw [hc _ _ (by omega)]; simp
          have c51 : w2.cell? ⟨w.heap.size + 1, 1, none⟩ = some (.bool false) := by rw [hc _ _ (by omega)]; simp
          have c52 : w2.cell? ⟨w.heap.size + 1, 2, none⟩ = some (.slice none 0 0) := by rw [hc _ _ (by omega)]; simp
          have c53 : w2.cell? ⟨w.heap.size + 1, 3, none⟩ = some (.int .i64 0) := by rw [hc _ _ (by omega)]; simp
          have c54 : w2.cell? ⟨w.heap.size + 1, 4, none⟩ = some (.int .i64 0) := by rw [hc _ _ (by omega)]; simp
          have c55 : w2.cell? ⟨w.heap.size + 1, 5, none⟩ = some (.bool false) := by rw [hc _ _ (by omega)]; simp
          clear hc hf
          go_wp2
          refine bodyPost_ret (v := .agg #[.int .i64 1, .bool false, .slice A zs.length c, .int .i64 k1, .int .i64 0, .bool false]) (by simp [results, Tryz.results88, go_sem, c40, c41, c42, c43, c44, c45]) rfl ⟨_, rfl, ?_, ?_⟩
          · rw [hI.out, if_neg hb0.out, if_neg (by omega), if_neg (by omega), if_neg (by omega)]
            refine ⟨A, c, zs, rfl, ?_, h1c, h2c, ?_, hn, hnew.imp id (fun ⟨b, off, e, h⟩ => ⟨b, off, e, by simp at h; omega⟩)⟩
            · simp only [size_setCell]
              repeat (refine RdU.apart ?_ hnew (by simp; try omega))
              exact hr
            · exact len_2000 hn (numV_lt _ hbd.out) (show b.length ≤ 2000 by omega)
          · have hb3 := chain hbw0 hb2
            repeat (refine Below.setCell ?_ (by first | exact Nat.le_refl _ | exact Nat.le_succ _) _)
            exact hb3
end Go.Proofs.YtncfbleeidjflaaGreatDoor
