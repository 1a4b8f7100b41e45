/- Scan, third part: what a number of digits is. Conditions: a text's reach. -/
/- Scan, fourth part: texts. Conditions: a text's reach. -/
/- The laws of Scan, small steps: what a text is; are two items the same. Conditions: a text's reach. -/
/- The laws of Scan: what must be in any case. Condition: the table of powers reads as it is laid. -/
/- Bytes put behind bytes: append, onto a slice that the walk has made. Conditions: the length's reach. -/
/- Posits: Value, walked. Condition: the library's table of noughts. -/
/- Values: the functions of the kinds, a form's shape, walked. Conditions: the tables of the forms, of the kinds' functions, the library's table of noughts. -/
import Derived.Test.YtehpneojiinmdaaGreatDoorTu12
import Derived.Test.YtehpneojiinmdaaGreatDoorTu07
import Derived.Test.YtehpneojiinmdaaGreatDoorTu13
import Derived.Lib.SlBytesRow
import Derived.Laws.IdiomStrings
import Derived.Lib.SlBytesConst
import Derived.Lib.AppendStr
import Derived.Lib.SlBuf
import Derived.ArgAppend
import Derived.Test.YtehpneojiinmdaaGreatDoorTu02
import Derived.Test.YtehpneojiinmdaaGreatDoorTu10
import Derived.Defers
import Derived.Recover
import Derived.Tactics2
import Derived.Test.YtehpneojiinmdaaGreatDoorTu01
import Derived.Test.YtehpneojiinmdaaGreatDoorTu03
namespace Go.Proofs.YtehpneojiinmdaaGreatDoor
open Go.RowKit Go.Cal
/-- As pItem; the digits lie in memory from block base on. -/
def pItemN (base : Nat) (v : Value) (it : Cal.Item) (w : World) : Prop :=
  ∃ (A : Option Addr) (c : Nat) (zs : List Nat), v = .agg #[.int .i64 (it.kind : Nat), .bool it.neg, .slice A zs.length c, .int .i64 it.k, .int .i64 it.big, .bool it.cut] ∧ RdU w w.heap.size A zs ∧ zs.length ≤ c ∧ c ≤ maxLen ∧ zs.length ≤ 2000 ∧ Nrm zs it.d ∧ (zs = [] ∨ ∃ b off, A = some ⟨b, off, none⟩ ∧ base ≤ b)
theorem pItemN.nil (base kind : Nat) (neg : Bool) (k big : Int) (cut : Bool) (w : World) : pItemN base (.agg #[.int .i64 (kind : Nat), .bool neg, .slice none 0 0, .int .i64 k, .int .i64 big, .bool cut]) ⟨kind, neg, 0, k, big, cut⟩ w :=
  ⟨none, 0, [], rfl, .nil, Nat.le_refl _, by unfold maxLen; omega, by simp, .zero, .inl rfl⟩
theorem ssize_alloc1 (w : World) (o : Obj) : (w.alloc o).heap.size = w.heap.size + 1 := by simp
theorem trimL_any (l : List UInt8) (w : World) : Calls Tryz.prog 170 #[.string (strL l), .string ⟨#[48]⟩] w fun e w' => e = .returned (.string (strL (trL l))) ∧ w = w' := by
  refine (Tryz.strings_TrimLeft_one (strL l) 48 (by decide) w).mono ?_
  rintro e w' ⟨rfl, rfl⟩
  refine ⟨?_, rfl⟩
  congr 3
theorem trimR_any (l : List UInt8) (hl : l.length ≤ maxLen) (w : World) : Calls Tryz.prog 171 #[.string (strL l), .string ⟨#[48]⟩] w fun e w' => e = .returned (.string (strL (trR l))) ∧ w = w' := by
  refine (Tryz.strings_TrimRight_one (strL l) 48 (by decide) w (by rw [strL_size]; exact hl)).mono ?_
  rintro e w' ⟨rfl, rfl⟩
  refine ⟨?_, rfl⟩
  congr 3
theorem size_setCell (w : World) (p : Addr) (u : Value) : (w.setCell p u).heap.size = w.heap.size := by simp [World.setCell]
theorem RdU.apart {w : World} {B base : Nat} {A : Option Addr} {zs : List Nat} {p : Addr} {u : Value} (h : RdU w B A zs) (hn : zs = [] ∨ ∃ b off, A = some ⟨b, off, none⟩ ∧ base ≤ b) (hp : p.block < base) : RdU (w.setCell p u) B A zs := by
  refine ⟨h.place, fun b off e i hi => ?_⟩
  rcases hn with rfl | ⟨b', off', e', hb⟩
  · simp at hi
  · rw [e] at e'
    injection e' with e'
    injection e' with e1 e2
    subst e1
    rw [World.cell?_setCell_other _ _ _ _ (fun e3 => by have := congrArg Addr.block e3; simp at this; omega)]
    exact h.cells b off e i hi
theorem parse_f (w : World) (s : ByteArray) (hs : POk s.data.toList) : Calls Tryz.prog 172 #[.string s] w fun e w' =>
    ∃ (A : Option Addr) (c : Nat) (zs : List Nat), e = .returned (.tuple #[.slice A zs.length c, .bool true]) ∧ RdU w' w'.heap.size A zs ∧ zs.length ≤ c ∧ c ≤ maxLen ∧ Nrm zs (numV s.data.toList) ∧ (zs = [] ∨ ∃ b off, A = some ⟨b, off, none⟩ ∧ w.heap.size ≤ b) ∧ Below w.heap.size w w' :=
  (parse_any s w hs).mono fun _ _ ⟨⟨A, c, zs, he, g, n⟩, hb⟩ => ⟨A, c, zs, he, g.rd, g.cap, g.small, n, g.own.imp id fun ⟨b, off, e, h, _⟩ => ⟨b, off, e, h⟩, hb⟩
theorem len_2000 {zs : List Nat} {N n k : Nat} (h : Nrm zs N) (hN : N < 10 ^ n) (hn : n ≤ k) : zs.length ≤ k := by
  refine h.length_le (Nat.lt_of_lt_of_le hN (Nat.le_trans (Nat.pow_le_pow_left (show 10 ≤ 18446744073709551616 by omega) n) (Nat.pow_le_pow_right (by omega) hn)))
theorem pOk_cut {b : List UInt8} (h3 : 1990 < b.length) (hd : ∀ c ∈ b, isDig c = true) (hh : b.head? ≠ some 48) : POk (strL (b.take 1990 ++ [49])).data.toList := by
  show POk (b.take 1990 ++ [49])
  have hl : (b.take 1990 ++ [49]).length = 1991 := by simp; omega
  refine ⟨by simp, by omega, fun e => ?_, dig_app (fun c hc => hd c (List.mem_of_mem_take hc)) (fun c hc => by simp at hc; subst hc; decide)⟩
  exfalso
  cases b with
  | nil => simp at h3
  | cons x b => exact hh (by simpa using e)
set_option maxRecDepth 100000 in
set_option maxHeartbeats 1000000 in
theorem sitem_any (ds : List UInt8) (hd : ∀ c ∈ ds, isDig c = true) (hl : ds.length ≤ 1099511627776) (k : Int) (hk : -4503599627370496 ≤ k ∧ k ≤ 4503599627370496) (w : World) :
    Calls Tryz.prog 139 #[.string (strL ds), .int .i64 k] w fun e w' => ∃ v, e = .returned v ∧ pItemN w.heap.size v (itemV false ds k) w' ∧ Below w.heap.size w w' := by
  obtain ⟨a, ha⟩ : ∃ a, trL ds = a := ⟨_, rfl⟩
  obtain ⟨b, hb⟩ : ∃ b, trR a = b := ⟨_, rfl⟩
  have htl := fun w => trimL_any ds w
  have htr := fun h w => trimR_any a h w
  have hla : a.length ≤ ds.length := by rw [← ha]; exact (trL_suffix ds).length_le
  have hlb : b.length ≤ a.length := by rw [← hb]; exact (trR_prefix a).length_le
  obtain ⟨k1, hk1⟩ : ∃ x, k + ((a.length : Int) - (b.length : Int)) = x := ⟨_, rfl⟩
  obtain ⟨tp, htp⟩ : ∃ x, (b.length : Int) + k1 - 1 = x := ⟨_, rfl⟩
  have hI : itemV false ds k = if b = [] then ⟨1, false, 0, 0, 0, false⟩ else if 1000 ≤ tp then ⟨1, false, 0, 0, 1, false⟩ else if tp < -1000 then ⟨1, false, 0, 0, -1, false⟩
      else if 1990 < b.length then ⟨1, false, numV (b.take 1990 ++ [49]), k1 + ((b.length : Int) - 1991), 0, true⟩ else ⟨1, false, numV b, k1, 0, false⟩ := by
    unfold itemV
    simp only [ha, hb, hk1, htp]
  have hbd : ∀ c ∈ b, isDig c = true := fun c hc => by
    have h1 : c ∈ a := (hb ▸ trR_prefix a : b <+: a).subset hc
    exact hd c ((ha ▸ trL_suffix ds : a <:+ ds).subset h1)
  have hbh : b ≠ [] → b.head? ≠ some 48 := fun h0 h => by
    obtain ⟨r, hr⟩ : ∃ r, a = b ++ r := by
      obtain ⟨r, hr⟩ := (hb ▸ trR_prefix a : b <+: a)
      exact ⟨r, hr.symm⟩
    have h1 := trL_head ds
    rw [ha, hr] at h1
    cases b with
    | nil => exact h0 rfl
    | cons x b => exact h1 (by simpa using h)
  rw [ha] at htl
  rw [hb] at htr
  replace htl := Lib.hid htl
  replace htr := Lib.hid htr
  replace hI := Lib.hid hI
  replace hbd := Lib.hid hbd
  replace hbh := Lib.hid hbh
  replace ha := Lib.hid ha
  replace hb := Lib.hid hb
  go_enter Tryz.func139, Tryz.ntmps139
  go_wp2_with fail
  refine (htl.out _).mono ?_
  rintro e w1 ⟨rfl, rfl⟩
  go_wp2_with fail
  refine (htr.out (by unfold maxLen; omega) _).mono ?_
  rintro e w1 ⟨rfl, rfl⟩
  have hsa := strL_size a
  have hsb := strL_size b
  have hE : (strL b).toList.isEmpty = b.isEmpty := by unfold strL; rw [ByteArray.toList_mk]
  have hbw : Below w.heap.size w ((w.alloc (.cells #[.int .i64 0, .bool false, .slice none 0 0, .int .i64 0, .int .i64 0, .bool false] 145)).alloc (.cells #[.int .i64 1, .bool false, .slice none 0 0, .int .i64 0, .int .i64 0, .bool false] 145)) := ((Below.refl _ _).alloc (Nat.le_refl _) _).alloc (by simp) _
  have hwk : IntKind.i64.wrap (k + ((a.length : Int) - (b.length : Int))) = k1 := by rw [hk1]; simp [IntKind.wrap, IntKind.bits, IntKind.signed]; omega
  have hwt : IntKind.i64.wrap ((b.length : Int) + k1) = (b.length : Int) + k1 := by simp [IntKind.wrap, IntKind.bits, IntKind.signed]; omega
  have hwt2 : IntKind.i64.wrap ((b.length : Int) + k1 - 1) = tp := by rw [htp]; simp [IntKind.wrap, IntKind.bits, IntKind.signed]; omega
  by_cases hb0 : b = []
  · have hE1 : (strL b).toList.isEmpty = true := by rw [hE, hb0]; rfl
    replace hb0 := Lib.hid hb0
    clear hE
    go_wp2
    refine bodyPost_ret (v := .agg #[.int .i64 1, .bool false, .slice none 0 0, .int .i64 0, .int .i64 0, .bool false]) (by simp [results, Tryz.results139, go_sem]) rfl ⟨_, rfl, ?_, ?_⟩
    · rw [hI.out, if_pos hb0.out]; exact pItemN.nil _ 1 false _ _ _ _
    · exact ((Below.refl _ _).alloc (Nat.le_refl _) _).alloc (by simp) _
  · have hE1 : (strL b).toList.isEmpty = false := by rw [hE]; simpa using hb0
    clear hE
    replace hb0 := Lib.hid hb0
    by_cases h1 : 1000 ≤ tp
    · go_wp2
      refine bodyPost_ret (v := .agg #[.int .i64 1, .bool false, .slice none 0 0, .int .i64 0, .int .i64 1, .bool false]) (by simp [results, Tryz.results139, go_sem]) rfl ⟨_, rfl, ?_, ?_⟩
      · rw [hI.out, if_neg hb0.out, if_pos h1]; exact pItemN.nil _ 1 false _ _ _ _
      · exact ((Below.refl _ _).alloc (Nat.le_refl _) _).alloc (by simp) _
    · by_cases h2 : tp < -1000
      · go_wp2
        refine bodyPost_ret (v := .agg #[.int .i64 1, .bool false, .slice none 0 0, .int .i64 0, .int .i64 (-1), .bool false]) (by simp [results, Tryz.results139, go_sem]) rfl ⟨_, rfl, ?_, ?_⟩
        · rw [hI.out, if_neg hb0.out, if_neg (by omega), if_pos (by omega)]; exact pItemN.nil _ 1 false _ _ _ _
        · exact ((Below.refl _ _).alloc (Nat.le_refl _) _).alloc (by simp) _
      · by_cases h3 : 1990 < b.length
        · have hP := pOk_cut (by omega) hbd.out (hbh.out hb0.out)
          have hpar := fun w => parse_f w (strL (b.take 1990 ++ [49])) hP
          have hext : (strL b).extract 0 1990 ++ ⟨#[49]⟩ = strL (b.take 1990 ++ [49]) := by
            unfold strL
            apply ByteArray.ext
            apply Array.toList_inj.1
            simp
          have hlen : (b.take 1990 ++ [49]).length ≤ 2000 := by simp; omega
          have hx1 : ((strL b).extract 0 1990).size = 1990 := by rw [ByteArray.size_extract, strL_size]; omega
          have hdc : ∀ c ∈ b.take 1990 ++ [49], isDig c = true := dig_app (fun c hc => hbd.out c (List.mem_of_mem_take hc)) (fun c hc => by simp at hc; subst hc; decide)
          have hkc : k1 + ((b.length : Int) - 1990 - 1) = k1 + ((b.length : Int) - 1991) := by omega
          have hbw0 : Below w.heap.size w ((w.alloc (.cells #[.int .i64 0, .bool false, .slice none 0 0, .int .i64 0, .int .i64 0, .bool false] 145)).alloc (.cells #[.int .i64 1, .bool false, .slice none 0 0, .int .i64 0, .int .i64 0, .bool true] 145)) := ((Below.refl _ _).alloc (Nat.le_refl _) _).alloc (by simp) _
          replace hpar := Lib.hid hpar
          replace hdc := Lib.hid hdc
          go_wp2_with fail
          refine (hpar.out _).mono ?_
          rintro e w2 ⟨A, c, zs, rfl, hr, h1c, h2c, hn, hnew, hb2⟩
          obtain ⟨hc, hf⟩ := bcell hb2
          simp only [ssize_alloc1] at hc hf
          have f4 : ∀ o, w2.frozen? ⟨w.heap.size, o, none⟩ = false := fun o => by rw [hf _ _ (by omega)]; simp
          have f5 : ∀ o, w2.frozen? ⟨w.heap.size + 1, o, none⟩ = false := fun o => by rw [hf _ _ (by omega)]; simp
          have c40 : w2.cell? ⟨w.heap.size, 0, none⟩ = some (.int .i64 0) := by rw [hc _ _ (by omega)]; simp
          have c41 : w2.cell? ⟨w.heap.size, 1, none⟩ = some (.bool false) := by rw [hc _ _ (by omega)]; simp
          have c42 : w2.cell? ⟨w.heap.size, 2, none⟩ = some (.slice none 0 0) := by rw [hc _ _ (by omega)]; simp
          have c43 : w2.cell? ⟨w.heap.size, 3, none⟩ = some (.int .i64 0) := by rw [hc _ _ (by omega)]; simp
          have c44 : w2.cell? ⟨w.heap.size, 4, none⟩ = some (.int .i64 0) := by rw [hc _ _ (by omega)]; simp
          have c45 : w2.cell? ⟨w.heap.size, 5, none⟩ = some (.bool false) := by rw [hc _ _ (by omega)]; simp
          have c50 : w2.cell? ⟨w.heap.size + 1, 0, none⟩ = some (.int .i64 1) := by rw [hc _ _ (by omega)]; simp
          have c51 : w2.cell? ⟨w.heap.size + 1, 1, none⟩ = some (.bool false) := by rw [hc _ _ (by omega)]; simp
          have c52 : w2.cell? ⟨w.heap.size + 1, 2, none⟩ = some (.slice none 0 0) := by rw [hc _ _ (by omega)]; simp
          have c53 : w2.cell? ⟨w.heap.size + 1, 3, none⟩ = some (.int .i64 0) := by rw [hc _ _ (by omega)]; simp
          have c54 : w2.cell? ⟨w.heap.size + 1, 4, none⟩ = some (.int .i64 0) := by rw [hc _ _ (by omega)]; simp
          have c55 : w2.cell? ⟨w.heap.size + 1, 5, none⟩ = some (.bool true) := by rw [hc _ _ (by omega)]; simp
          clear hc hf
          go_wp2
          refine bodyPost_ret (v := .agg #[.int .i64 1, .bool false, .slice A zs.length c, .int .i64 (k1 + ((b.length : Int) - 1991)), .int .i64 0, .bool true]) (by simp [results, Tryz.results139, go_sem, c40, c41, c42, c43, c44, c45]) rfl ⟨_, rfl, ?_, ?_⟩
          · rw [hI.out, if_neg hb0.out, if_neg (by omega), if_neg (by omega), if_pos (by omega)]
            refine ⟨A, c, zs, rfl, ?_, h1c, h2c, ?_, hn, hnew.imp id (fun ⟨b, off, e, h⟩ => ⟨b, off, e, by simp at h; omega⟩)⟩
            · simp only [size_setCell]
              repeat (refine RdU.apart ?_ hnew (by simp; try omega))
              exact hr
            · exact len_2000 hn (numV_lt _ hdc.out) hlen
          · have hb3 := chain hbw0 hb2
            repeat (refine Below.setCell ?_ (by first | exact Nat.le_refl _ | exact Nat.le_succ _) _)
            exact hb3
        · have hP : POk (strL b).data.toList := ⟨hb0.out, by show b.length ≤ 2000; omega, fun e => absurd e (hbh.out hb0.out), hbd.out⟩
          have hpar := fun w => parse_f w (strL b) hP
          have hbw0 : Below w.heap.size w ((w.alloc (.cells #[.int .i64 0, .bool false, .slice none 0 0, .int .i64 0, .int .i64 0, .bool false] 145)).alloc (.cells #[.int .i64 1, .bool false, .slice none 0 0, .int .i64 0, .int .i64 0, .bool false] 145)) := ((Below.refl _ _).alloc (Nat.le_refl _) _).alloc (by simp) _
          replace hpar := Lib.hid hpar
          go_wp2_with fail
          refine (hpar.out _).mono ?_
          rintro e w2 ⟨A, c, zs, rfl, hr, h1c, h2c, hn, hnew, hb2⟩
          obtain ⟨hc, hf⟩ := bcell hb2
          simp only [ssize_alloc1] at hc hf
          have f4 : ∀ o, w2.frozen? ⟨w.heap.size, o, none⟩ = false := fun o => by rw [hf _ _ (by omega)]; simp
          have f5 : ∀ o, w2.frozen? ⟨w.heap.size + 1, o, none⟩ = false := fun o => by rw [hf _ _ (by omega)]; simp
          have c40 : w2.cell? ⟨w.heap.size, 0, none⟩ = some (.int .i64 0) := by rw [hc _ _ (by omega)]; simp
          have c41 : w2.cell? ⟨w.heap.size, 1, none⟩ = some (.bool false) := by rw [hc _ _ (by omega)]; simp
          have c42 : w2.cell? ⟨w.heap.size, 2, none⟩ = some (.slice none 0 0) := by rw [hc _ _ (by omega)]; simp
          have c43 : w2.cell? ⟨w.heap.size, 3, none⟩ = some (.int .i64 0) := by rw [hc _ _ (by omega)]; simp
          have c44 : w2.cell? ⟨w.heap.size, 4, none⟩ = some (.int .i64 0) := by rw [hc _ _ (by omega)]; simp
          have c45 : w2.cell? ⟨w.heap.size, 5, none⟩ = some (.bool false) := by rw [hc _ _ (by omega)]; simp
          have c50 : w2.cell? ⟨w.heap.size + 1, 0, none⟩ = some (.int .i64 1) := by rw [hc _ _ (by omega)]; simp
          have c51 : w2.cell? ⟨w.heap.size + 1, 1, none⟩ = some (.bool false) := by rw [hc _ _ (by omega)]; simp
          have c52 : w2.cell? ⟨w.heap.size + 1, 2, none⟩ = some (.slice none 0 0) := by rw [hc _ _ (by omega)]; simp
          have c53 : w2.cell? ⟨w.heap.size + 1, 3, none⟩ = some (.int .i64 0) := by rw [hc _ _ (by omega)]; simp
          have c54 : w2.cell? ⟨w.heap.size + 1, 4, none⟩ = some (.int .i64 0) := by rw [hc _ _ (by omega)]; simp
          have c55 : w2.cell? ⟨w.heap.size + 1, 5, none⟩ = some (.bool false) := by rw [hc _ _ (by omega)]; simp
          clear hc hf
          go_wp2
          refine bodyPost_ret (v := .agg #[.int .i64 1, .bool false, .slice A zs.length c, .int .i64 k1, .int .i64 0, .bool false]) (by simp [results, Tryz.results139, go_sem, c40, c41, c42, c43, c44, c45]) rfl ⟨_, rfl, ?_, ?_⟩
          · rw [hI.out, if_neg hb0.out, if_neg (by omega), if_neg (by omega), if_neg (by omega)]
            refine ⟨A, c, zs, rfl, ?_, h1c, h2c, ?_, hn, hnew.imp id (fun ⟨b, off, e, h⟩ => ⟨b, off, e, by simp at h; omega⟩)⟩
            · simp only [size_setCell]
              repeat (refine RdU.apart ?_ hnew (by simp; try omega))
              exact hr
            · exact len_2000 hn (numV_lt _ hbd.out) (show b.length ≤ 2000 by omega)
          · have hb3 := chain hbw0 hb2
            repeat (refine Below.setCell ?_ (by first | exact Nat.le_refl _ | exact Nat.le_succ _) _)
            exact hb3
end Go.Proofs.YtehpneojiinmdaaGreatDoor
namespace Go.Proofs.YtehpneojiinmdaaGreatDoor
open Go.RowKit Go.Cal
theorem sunder_bytes : Tryz.prog.underlying 61 = some (.slice 5) := by kernel_rfl
theorem sunder_byte : Tryz.prog.underlying 5 = some (.int .u8) := by kernel_rfl
theorem sunder_str : Tryz.prog.underlying 9 = some .string := by kernel_rfl
/-- The slice at A reads as the bytes l; it lies below block B. -/
structure RdB (w : World) (B : Nat) (A : Option Addr) (l : List UInt8) : Prop where
  place : l = [] ∨ ∃ b off, A = some ⟨b, off, none⟩ ∧ b < B
  cells : ∀ b off, A = some ⟨b, off, none⟩ → ∀ i, i < l.length → w.cell? ⟨b, off + i, none⟩ = some (.int .u8 (((l.getD i 0).toNat : Nat) : Int))
theorem RdB.keep {w w' : World} {B : Nat} {A : Option Addr} {l : List UInt8} (h : RdB w B A l) (hk : ∀ b o, b < B → w'.cell? ⟨b, o, none⟩ = w.cell? ⟨b, o, none⟩) : RdB w' B A l := by
  rcases h.place with rfl | ⟨b, off, e, hb⟩
  · exact ⟨.inl rfl, fun _ _ _ i hi => by simp at hi⟩
  · refine ⟨.inr ⟨b, off, e, hb⟩, fun b' off' e' i hi => ?_⟩
    rw [e] at e'
    injection e' with e'
    injection e' with e1 e2
    subst e1; subst e2
    rw [hk _ _ hb]
    exact h.cells _ _ e i hi
theorem RdB.below {w w' : World} {B : Nat} {A : Option Addr} {l : List UInt8} (h : RdB w B A l) (hb : Below B w w') : RdB w' B A l := h.keep fun b o hp => hb.cell (p := ⟨b, o, none⟩) hp
theorem conv_bytes {w : World} {B : Nat} {A : Option Addr} {l : List UInt8} (c : Nat) (h : RdB w B A l) : (convert 61 9 (.slice A l.length c)).run Tryz.prog w = .ok (.string (strL l)) w := by
  cases A with
  | none =>
    rcases h.place with rfl | ⟨b, off, e, _⟩
    · exact run_convert_bytes_nil (P := Tryz.prog) w 61 5 sunder_bytes sunder_byte _ _ 9 sunder_str
    · cases e
  | some a =>
    refine run_convert_bytes_back (P := Tryz.prog) w 61 9 5 a c l sunder_bytes sunder_byte sunder_str (fun j hj => ?_)
    rcases h.place with rfl | ⟨b, off, e, _⟩
    · simp at hj
    · injection e with e
      subst e
      rw [Lib.add_plain, h.cells b off rfl j hj]
      simp [List.getD_eq_getElem?_getD, hj]
def itemNo : Value := .agg #[.int .i64 0, .bool false, .slice none 0 0, .int .i64 0, .int .i64 0, .bool false]
/-- What Scan tells. -/
def ScanOut (w : World) (l : List UInt8) (e : Ending) (w' : World) : Prop :=
  (((textS l).1 = true ∧ ∃ v, e = .returned (.tuple #[v, .int .i64 0, .int .i64 0]) ∧ pItemN w.heap.size v (textV 1125899906842624 l) w') ∨ ((textS l).1 = false ∧ e = .returned (.tuple #[itemNo, .int .i64 ((textS l).2 : Nat), .int .i64 2]))) ∧ Below w.heap.size w w'
/-- A text, by its sign. -/
theorem text_parts (l : List UInt8) : ∃ (neg : Bool) (f : Nat), Lib.hasPrefix l [45] = neg ∧ f = (if neg then 1 else 0) ∧ f ≤ l.length ∧ (textS l).1 = (bodyS (l.drop f)).1 ∧ (textS l).2 = f + (bodyS (l.drop f)).2 ∧ textV 1125899906842624 l = bodyV 1125899906842624 neg (l.drop f) := by
  match l with
  | [] => exact ⟨false, 0, rfl, rfl, Nat.le_refl _, rfl, by simp [textS], rfl⟩
  | c :: t =>
    by_cases h : c = 45
    · subst h
      exact ⟨true, 1, by simp [Lib.hasPrefix], rfl, by simp, rfl, by show _ + 1 = 1 + _; rw [Nat.add_comm]; rfl, rfl⟩
    · refine ⟨false, 0, by show ((45 : UInt8) == c && List.isPrefixOf [] t) = false; rw [beq_eq_false_iff_ne.2 (Ne.symm h)]; rfl, rfl, by simp, ?_, ?_, ?_⟩
      · unfold textS
        split
        · rename_i e; injection e with e1 e2; exact absurd e1 h
        · rfl
      · unfold textS
        split
        · rename_i e; injection e with e1 e2; exact absurd e1 h
        · simp
      · unfold textV
        split
        · rename_i e; injection e with e1 e2; exact absurd e1 h
        · rfl
theorem prefix_any (l : List UInt8) (w : World) (n : Bool) (hn : Lib.hasPrefix l [45] = n) : Calls Tryz.prog 125 #[.string (strL l), .string ⟨#[45]⟩] w fun e w' => e = .returned (.bool n) ∧ w = w' := by
  subst hn
  refine (Tryz.strings_HasPrefix (strL l) ⟨#[45]⟩ w).mono ?_
  rintro e w' ⟨rfl, rfl⟩
  exact ⟨rfl, rfl⟩
set_option maxRecDepth 100000 in
set_option maxHeartbeats 2000000 in
theorem scan_any {A : Option Addr} (l : List UInt8) (c : Nat) (w : World) (h : RdB w w.heap.size A l) (hl : l.length ≤ 1099511627776) : Calls Tryz.prog 89 #[.slice A l.length c] w (ScanOut w l) := by
  obtain ⟨neg, f, hneg, hf, hfl, hS1, hS2, hV⟩ := text_parts l
  have hcv := conv_bytes c (h.below ((Below.refl _ _).alloc (Nat.le_refl _) (.cells #[.int .i64 0, .bool false, .slice none 0 0, .int .i64 0, .int .i64 0, .bool false] 145)))
  have hpx := fun w => prefix_any l w neg hneg
  have hwd := fun w => sword_any l (by unfold maxLen; omega) f hfl w
  have hnm := fun w => snum_any l (by unfold maxLen; omega) f hfl w
  obtain ⟨t, ht⟩ : ∃ t, l.drop f = t := ⟨_, rfl⟩
  have htl : t.length ≤ l.length := by rw [← ht, List.length_drop]; omega
  rw [ht] at hS1 hS2 hV hwd hnm
  have hfi : (f : Int) = if neg then 1 else 0 := by rw [hf]; split <;> rfl
  replace hpx := Lib.hid hpx
  replace hwd := Lib.hid hwd
  replace hnm := Lib.hid hnm
  replace hS1 := Lib.hid hS1
  replace hS2 := Lib.hid hS2
  replace hV := Lib.hid hV
  replace ht := Lib.hid ht
  replace hf := Lib.hid hf
  replace hneg := Lib.hid hneg
  have hbw0 : Below w.heap.size w (w.alloc (.cells #[.int .i64 0, .bool false, .slice none 0 0, .int .i64 0, .int .i64 0, .bool false] 145)) := (Below.refl _ _).alloc (Nat.le_refl _) _
  clear h
  cases neg
  · obtain rfl : f = 0 := by simpa using hfi
    clear hfi
    go_enter Tryz.func89, Tryz.ntmps89
    go_wp2_with fail
    refine (hpx.out _).mono ?_
    rintro e w1 ⟨rfl, rfl⟩
    go_wp2_with fail
    refine (hwd.out _).mono ?_
    rintro e w1 ⟨⟨hk, rfl⟩ | ⟨hk, he⟩, hb1⟩
    · have hb1' : Below (w.heap.size + 1) (w.alloc (.cells #[.int .i64 0, .bool false, .slice none 0 0, .int .i64 0, .int .i64 0, .bool false] 145)) w1 := by simpa using hb1
      have f4 : ∀ o, w1.frozen? ⟨w.heap.size, o, none⟩ = false := fun o => by rw [hb1'.frozen (p := ⟨w.heap.size, o, none⟩) (by show w.heap.size < _; simp)]; simp
      have c40 : w1.cell? ⟨w.heap.size, 0, none⟩ = some (.int .i64 0) := by rw [hb1'.cell (p := ⟨w.heap.size, 0, none⟩) (by show w.heap.size < _; simp)]; simp
      have c41 : w1.cell? ⟨w.heap.size, 1, none⟩ = some (.bool false) := by rw [hb1'.cell (p := ⟨w.heap.size, 1, none⟩) (by show w.heap.size < _; simp)]; simp
      have c42 : w1.cell? ⟨w.heap.size, 2, none⟩ = some (.slice none 0 0) := by rw [hb1'.cell (p := ⟨w.heap.size, 2, none⟩) (by show w.heap.size < _; simp)]; simp
      have c43 : w1.cell? ⟨w.heap.size, 3, none⟩ = some (.int .i64 0) := by rw [hb1'.cell (p := ⟨w.heap.size, 3, none⟩) (by show w.heap.size < _; simp)]; simp
      have c44 : w1.cell? ⟨w.heap.size, 4, none⟩ = some (.int .i64 0) := by rw [hb1'.cell (p := ⟨w.heap.size, 4, none⟩) (by show w.heap.size < _; simp)]; simp
      have c45 : w1.cell? ⟨w.heap.size, 5, none⟩ = some (.bool false) := by rw [hb1'.cell (p := ⟨w.heap.size, 5, none⟩) (by show w.heap.size < _; simp)]; simp
      have hbw := chain hbw0 hb1
      have hok : (textS l).1 = true := by rw [hS1.out]; unfold bodyS; rw [if_pos hk]
      replace hk := Lib.hid hk
      replace hok := Lib.hid hok
      clear hb1 hb1'
      go_wp2
      refine bodyPost_ret (v := .tuple #[.agg #[.int .i64 (wordK t : Nat), .bool false, .slice none 0 0, .int .i64 0, .int .i64 0, .bool false], .int .i64 0, .int .i64 0]) (by simp [results, Tryz.results89, go_sem, c40, c41, c42, c43, c44, c45]) rfl ⟨.inl ⟨hok.out, _, rfl, ?_⟩, ?_⟩
      · rw [hV.out]
        unfold bodyV
        rw [if_pos hk.out]
        exact pItemN.nil _ _ _ _ _ _ _
      · iterate 6 (refine Below.setCell ?_ (by exact Nat.le_refl _) _)
        exact hbw
    · obtain ⟨wn, hwn⟩ : ∃ x, 0 + wordN t = x := ⟨_, rfl⟩
      rw [hwn] at he
      subst he
      have hbw := chain hbw0 hb1
      go_wp2_with fail
      refine (hnm.out _).mono ?_
      rintro e w2 ⟨⟨hok, x, rfl⟩ | ⟨hno, xa, xb, xc, he⟩, hb2⟩
      · obtain ⟨bh, hbh⟩ : ∃ x, numB t = x := ⟨_, rfl⟩
        obtain ⟨ex, hex⟩ : ∃ x, expV 1125899906842624 (numR t) = x := ⟨_, rfl⟩
        obtain ⟨kk, hkk⟩ : ∃ x, ex - (bh : Int) = x := ⟨_, rfl⟩
        have hexb := expV_bound 1125899906842624 (numR t)
        have hbhb : bh ≤ l.length := by rw [← hbh]; exact Nat.le_trans (numB_le t) htl
        rw [hex] at hexb
        rw [hbh, hex]
        have hwk : IntKind.i64.wrap (ex - (bh : Int)) = kk := by rw [hkk]; simp [IntKind.wrap, IntKind.bits, IntKind.signed]; omega
        have hit := fun w => sitem_any (numD t) (numD_digs t) (Nat.le_trans (numD_le t) (by omega)) kk (by omega) w
        have hbw2 := chain hbw hb2
        replace hit := Lib.hid hit
        replace hexb := Lib.hid hexb
        replace hkk := Lib.hid hkk
        go_wp2_with fail
        refine (hit.out _).mono ?_
        rintro e w3 ⟨v, rfl, ⟨A3, c3, zs, rfl, r1, r2, r3, r4, r5, r6⟩, hb3⟩
        have hb13 : Below (w.heap.size + 1) (w.alloc (.cells #[.int .i64 0, .bool false, .slice none 0 0, .int .i64 0, .int .i64 0, .bool false] 145)) w3 := by
          have h1 : Below (w.alloc (.cells #[.int .i64 0, .bool false, .slice none 0 0, .int .i64 0, .int .i64 0, .bool false] 145)).heap.size (w.alloc (.cells #[.int .i64 0, .bool false, .slice none 0 0, .int .i64 0, .int .i64 0, .bool false] 145)) w3 := chain (chain hb1 hb2) hb3
          simpa using h1
        have hz3 : w.heap.size < w2.heap.size := by
          have h1 := (chain hb1 hb2).size
          simp at h1
          omega
        have hz4 : w2.heap.size ≤ w3.heap.size := hb3.size
        obtain ⟨it, hit2⟩ : ∃ x, itemV false (numD t) kk = x := ⟨_, rfl⟩
        rw [hit2] at r5 ⊢
        have hneI : textV 1125899906842624 l = ⟨it.kind, false, it.d, it.k, it.big, it.cut⟩ := by
          rw [hV.out]
          unfold bodyV
          rw [if_neg (by simp [hk]), hex, hbh, hkk.out, itemV_neg, hit2]
        have hokT : (textS l).1 = true := by rw [hS1.out]; unfold bodyS; rw [if_neg (by simp [hk])]; exact hok
        have hbw3 := chain hbw2 hb3
        have f4 : ∀ o, w3.frozen? ⟨w.heap.size, o, none⟩ = false := fun o => by rw [hb13.frozen (p := ⟨w.heap.size, o, none⟩) (by show w.heap.size < _; simp)]; simp
        have c40 : w3.cell? ⟨w.heap.size, 0, none⟩ = some (.int .i64 0) := by rw [hb13.cell (p := ⟨w.heap.size, 0, none⟩) (by show w.heap.size < _; simp)]; simp
        have c41 : w3.cell? ⟨w.heap.size, 1, none⟩ = some (.bool false) := by rw [hb13.cell (p := ⟨w.heap.size, 1, none⟩) (by show w.heap.size < _; simp)]; simp
        have c42 : w3.cell? ⟨w.heap.size, 2, none⟩ = some (.slice none 0 0) := by rw [hb13.cell (p := ⟨w.heap.size, 2, none⟩) (by show w.heap.size < _; simp)]; simp
        have c43 : w3.cell? ⟨w.heap.size, 3, none⟩ = some (.int .i64 0) := by rw [hb13.cell (p := ⟨w.heap.size, 3, none⟩) (by show w.heap.size < _; simp)]; simp
        have c44 : w3.cell? ⟨w.heap.size, 4, none⟩ = some (.int .i64 0) := by rw [hb13.cell (p := ⟨w.heap.size, 4, none⟩) (by show w.heap.size < _; simp)]; simp
        have c45 : w3.cell? ⟨w.heap.size, 5, none⟩ = some (.bool false) := by rw [hb13.cell (p := ⟨w.heap.size, 5, none⟩) (by show w.heap.size < _; simp)]; simp
        have hz5 : w.heap.size < w3.heap.size := by omega
        replace hit2 := Lib.hid hit2
        replace hneI := Lib.hid hneI
        replace hokT := Lib.hid hokT
        clear hb13 hb1 hb2 hb3
        go_wp2
        refine bodyPost_ret (v := .tuple #[.agg #[.int .i64 (it.kind : Nat), .bool false, .slice A3 zs.length c3, .int .i64 it.k, .int .i64 it.big, .bool it.cut], .int .i64 0, .int .i64 0]) (by simp [results, Tryz.results89, go_sem, c40, c41, c42, c43, c44, c45, hz5]) rfl ⟨.inl ⟨hokT.out, _, rfl, ?_⟩, ?_⟩
        · rw [hneI.out]
          refine ⟨A3, c3, zs, rfl, ?_, r2, r3, r4, r5, r6.imp id (fun ⟨b, off, e, h⟩ => ⟨b, off, e, by omega⟩)⟩
          refine RdU.more (B := w3.heap.size) (RdU.alloc ?_ (by simp) _) (by simp)
          iterate 6 (refine RdU.apart ?_ r6 (by show w.heap.size < _; omega))
          exact r1
        · refine Below.alloc ?_ (by simp; omega) _
          iterate 6 (refine Below.setCell ?_ (by exact Nat.le_refl _) _)
          exact hbw3
      · obtain ⟨pn, hpn⟩ : ∃ x, 0 + (numS t).2 = x := ⟨_, rfl⟩
        rw [hpn] at he
        subst he
        have hmx : max (wn : Int) (pn : Int) = (((textS l).2 : Nat) : Int) := by
          rw [hS2.out]
          unfold bodyS
          rw [if_neg (by simp [hk])]
          show _ = (((0 + max (wordN t) (numS t).2 : Nat)) : Int)
          omega
        have hnoT : (textS l).1 = false := by rw [hS1.out]; unfold bodyS; rw [if_neg (by simp [hk])]; exact hno
        have hb12 : Below (w.heap.size + 1) (w.alloc (.cells #[.int .i64 0, .bool false, .slice none 0 0, .int .i64 0, .int .i64 0, .bool false] 145)) w2 := by
          have h1 : Below (w.alloc (.cells #[.int .i64 0, .bool false, .slice none 0 0, .int .i64 0, .int .i64 0, .bool false] 145)).heap.size (w.alloc (.cells #[.int .i64 0, .bool false, .slice none 0 0, .int .i64 0, .int .i64 0, .bool false] 145)) w2 := chain hb1 hb2
          simpa using h1
        have f4 : ∀ o, w2.frozen? ⟨w.heap.size, o, none⟩ = false := fun o => by rw [hb12.frozen (p := ⟨w.heap.size, o, none⟩) (by show w.heap.size < _; simp)]; simp
        have c40 : w2.cell? ⟨w.heap.size, 0, none⟩ = some (.int .i64 0) := by rw [hb12.cell (p := ⟨w.heap.size, 0, none⟩) (by show w.heap.size < _; simp)]; simp
        have c41 : w2.cell? ⟨w.heap.size, 1, none⟩ = some (.bool false) := by rw [hb12.cell (p := ⟨w.heap.size, 1, none⟩) (by show w.heap.size < _; simp)]; simp
        have c42 : w2.cell? ⟨w.heap.size, 2, none⟩ = some (.slice none 0 0) := by rw [hb12.cell (p := ⟨w.heap.size, 2, none⟩) (by show w.heap.size < _; simp)]; simp
        have c43 : w2.cell? ⟨w.heap.size, 3, none⟩ = some (.int .i64 0) := by rw [hb12.cell (p := ⟨w.heap.size, 3, none⟩) (by show w.heap.size < _; simp)]; simp
        have c44 : w2.cell? ⟨w.heap.size, 4, none⟩ = some (.int .i64 0) := by rw [hb12.cell (p := ⟨w.heap.size, 4, none⟩) (by show w.heap.size < _; simp)]; simp
        have c45 : w2.cell? ⟨w.heap.size, 5, none⟩ = some (.bool false) := by rw [hb12.cell (p := ⟨w.heap.size, 5, none⟩) (by show w.heap.size < _; simp)]; simp
        have hbw2 := chain hbw hb2
        replace hnoT := Lib.hid hnoT
        clear hb12 hb1 hb2
        go_wp2
        refine bodyPost_ret (v := .tuple #[itemNo, .int .i64 ((textS l).2 : Nat), .int .i64 2]) (by simp [results, Tryz.results89, go_sem, c40, c41, c42, c43, c44, c45, itemNo]) rfl ⟨.inr ⟨hnoT.out, rfl⟩, ?_⟩
        iterate 6 (refine Below.setCell ?_ (by exact Nat.le_refl _) _)
        exact hbw2
  · obtain rfl : f = 1 := by simp at hfi; omega
    clear hfi
    go_enter Tryz.func89, Tryz.ntmps89
    go_wp2_with fail
    refine (hpx.out _).mono ?_
    rintro e w1 ⟨rfl, rfl⟩
    go_wp2_with fail
    refine (hwd.out _).mono ?_
    rintro e w1 ⟨⟨hk, rfl⟩ | ⟨hk, he⟩, hb1⟩
    · have hb1' : Below (w.heap.size + 1) (w.alloc (.cells #[.int .i64 0, .bool false, .slice none 0 0, .int .i64 0, .int .i64 0, .bool false] 145)) w1 := by simpa using hb1
      have f4 : ∀ o, w1.frozen? ⟨w.heap.size, o, none⟩ = false := fun o => by rw [hb1'.frozen (p := ⟨w.heap.size, o, none⟩) (by show w.heap.size < _; simp)]; simp
      have c40 : w1.cell? ⟨w.heap.size, 0, none⟩ = some (.int .i64 0) := by rw [hb1'.cell (p := ⟨w.heap.size, 0, none⟩) (by show w.heap.size < _; simp)]; simp
      have c41 : w1.cell? ⟨w.heap.size, 1, none⟩ = some (.bool false) := by rw [hb1'.cell (p := ⟨w.heap.size, 1, none⟩) (by show w.heap.size < _; simp)]; simp
      have c42 : w1.cell? ⟨w.heap.size, 2, none⟩ = some (.slice none 0 0) := by rw [hb1'.cell (p := ⟨w.heap.size, 2, none⟩) (by show w.heap.size < _; simp)]; simp
      have c43 : w1.cell? ⟨w.heap.size, 3, none⟩ = some (.int .i64 0) := by rw [hb1'.cell (p := ⟨w.heap.size, 3, none⟩) (by show w.heap.size < _; simp)]; simp
      have c44 : w1.cell? ⟨w.heap.size, 4, none⟩ = some (.int .i64 0) := by rw [hb1'.cell (p := ⟨w.heap.size, 4, none⟩) (by show w.heap.size < _; simp)]; simp
      have c45 : w1.cell? ⟨w.heap.size, 5, none⟩ = some (.bool false) := by rw [hb1'.cell (p := ⟨w.heap.size, 5, none⟩) (by show w.heap.size < _; simp)]; simp
      have hbw := chain hbw0 hb1
      have hok : (textS l).1 = true := by rw [hS1.out]; unfold bodyS; rw [if_pos hk]
      replace hk := Lib.hid hk
      replace hok := Lib.hid hok
      clear hb1 hb1'
      go_wp2
      refine bodyPost_ret (v := .tuple #[.agg #[.int .i64 (wordK t : Nat), .bool true, .slice none 0 0, .int .i64 0, .int .i64 0, .bool false], .int .i64 0, .int .i64 0]) (by simp [results, Tryz.results89, go_sem, c40, c41, c42, c43, c44, c45]) rfl ⟨.inl ⟨hok.out, _, rfl, ?_⟩, ?_⟩
      · rw [hV.out]
        unfold bodyV
        rw [if_pos hk.out]
        exact pItemN.nil _ _ _ _ _ _ _
      · iterate 6 (refine Below.setCell ?_ (by exact Nat.le_refl _) _)
        exact hbw
    · obtain ⟨wn, hwn⟩ : ∃ x, 1 + wordN t = x := ⟨_, rfl⟩
      rw [hwn] at he
      subst he
      have hbw := chain hbw0 hb1
      go_wp2_with fail
      refine (hnm.out _).mono ?_
      rintro e w2 ⟨⟨hok, x, rfl⟩ | ⟨hno, xa, xb, xc, he⟩, hb2⟩
      · obtain ⟨bh, hbh⟩ : ∃ x, numB t = x := ⟨_, rfl⟩
        obtain ⟨ex, hex⟩ : ∃ x, expV 1125899906842624 (numR t) = x := ⟨_, rfl⟩
        obtain ⟨kk, hkk⟩ : ∃ x, ex - (bh : Int) = x := ⟨_, rfl⟩
        have hexb := expV_bound 1125899906842624 (numR t)
        have hbhb : bh ≤ l.length := by rw [← hbh]; exact Nat.le_trans (numB_le t) htl
        rw [hex] at hexb
        rw [hbh, hex]
        have hwk : IntKind.i64.wrap (ex - (bh : Int)) = kk := by rw [hkk]; simp [IntKind.wrap, IntKind.bits, IntKind.signed]; omega
        have hit := fun w => sitem_any (numD t) (numD_digs t) (Nat.le_trans (numD_le t) (by omega)) kk (by omega) w
        have hbw2 := chain hbw hb2
        replace hit := Lib.hid hit
        replace hexb := Lib.hid hexb
        replace hkk := Lib.hid hkk
        go_wp2_with fail
        refine (hit.out _).mono ?_
        rintro e w3 ⟨v, rfl, ⟨A3, c3, zs, rfl, r1, r2, r3, r4, r5, r6⟩, hb3⟩
        have hb13 : Below (w.heap.size + 1) (w.alloc (.cells #[.int .i64 0, .bool false, .slice none 0 0, .int .i64 0, .int .i64 0, .bool false] 145)) w3 := by
          have h1 : Below (w.alloc (.cells #[.int .i64 0, .bool false, .slice none 0 0, .int .i64 0, .int .i64 0, .bool false] 145)).heap.size (w.alloc (.cells #[.int .i64 0, .bool false, .slice none 0 0, .int .i64 0, .int .i64 0, .bool false] 145)) w3 := chain (chain hb1 hb2) hb3
          simpa using h1
        have hz3 : w.heap.size < w2.heap.size := by
          have h1 := (chain hb1 hb2).size
          simp at h1
          omega
        have hz4 : w2.heap.size ≤ w3.heap.size := hb3.size
        obtain ⟨it, hit2⟩ : ∃ x, itemV false (numD t) kk = x := ⟨_, rfl⟩
        rw [hit2] at r5 ⊢
        have hneI : textV 1125899906842624 l = ⟨it.kind, true, it.d, it.k, it.big, it.cut⟩ := by
          rw [hV.out]
          unfold bodyV
          rw [if_neg (by simp [hk]), hex, hbh, hkk.out, itemV_neg, hit2]
        have hokT : (textS l).1 = true := by rw [hS1.out]; unfold bodyS; rw [if_neg (by simp [hk])]; exact hok
        have hbw3 := chain hbw2 hb3
        have f4 : ∀ o, w3.frozen? ⟨w.heap.size, o, none⟩ = false := fun o => by rw [hb13.frozen (p := ⟨w.heap.size, o, none⟩) (by show w.heap.size < _; simp)]; simp
        have c40 : w3.cell? ⟨w.heap.size, 0, none⟩ = some (.int .i64 0) := by rw [hb13.cell (p := ⟨w.heap.size, 0, none⟩) (by show w.heap.size < _; simp)]; simp
        have c41 : w3.cell? ⟨w.heap.size, 1, none⟩ = some (.bool false) := by rw [hb13.cell (p := ⟨w.heap.size, 1, none⟩) (by show w.heap.size < _; simp)]; simp
        have c42 : w3.cell? ⟨w.heap.size, 2, none⟩ = some (.slice none 0 0) := by rw [hb13.cell (p := ⟨w.heap.size, 2, none⟩) (by show w.heap.size < _; simp)]; simp
        have c43 : w3.cell? ⟨w.heap.size, 3, none⟩ = some (.int .i64 0) := by rw [hb13.cell (p := ⟨w.heap.size, 3, none⟩) (by show w.heap.size < _; simp)]; simp
        have c44 : w3.cell? ⟨w.heap.size, 4, none⟩ = some (.int .i64 0) := by rw [hb13.cell (p := ⟨w.heap.size, 4, none⟩) (by show w.heap.size < _; simp)]; simp
        have c45 : w3.cell? ⟨w.heap.size, 5, none⟩ = some (.bool false) := by rw [hb13.cell (p := ⟨w.heap.size, 5, none⟩) (by show w.heap.size < _; simp)]; simp
        have hz5 : w.heap.size < w3.heap.size := by omega
        replace hit2 := Lib.hid hit2
        replace hneI := Lib.hid hneI
        replace hokT := Lib.hid hokT
        clear hb13 hb1 hb2 hb3
        go_wp2
        refine bodyPost_ret (v := .tuple #[.agg #[.int .i64 (it.kind : Nat), .bool true, .slice A3 zs.length c3, .int .i64 it.k, .int .i64 it.big, .bool it.cut], .int .i64 0, .int .i64 0]) (by simp [results, Tryz.results89, go_sem, c40, c41, c42, c43, c44, c45, hz5]) rfl ⟨.inl ⟨hokT.out, _, rfl, ?_⟩, ?_⟩
        · rw [hneI.out]
          refine ⟨A3, c3, zs, rfl, ?_, r2, r3, r4, r5, r6.imp id (fun ⟨b, off, e, h⟩ => ⟨b, off, e, by omega⟩)⟩
          refine RdU.more (B := w3.heap.size) (RdU.alloc ?_ (by simp) _) (by simp)
          iterate 6 (refine RdU.apart ?_ r6 (by show w.heap.size < _; omega))
          exact r1
        · refine Below.alloc ?_ (by simp; omega) _
          iterate 6 (refine Below.setCell ?_ (by exact Nat.le_refl _) _)
          exact hbw3
      · obtain ⟨pn, hpn⟩ : ∃ x, 1 + (numS t).2 = x := ⟨_, rfl⟩
        rw [hpn] at he
        subst he
        have hmx : max (wn : Int) (pn : Int) = (((textS l).2 : Nat) : Int) := by
          rw [hS2.out]
          unfold bodyS
          rw [if_neg (by simp [hk])]
          show _ = (((1 + max (wordN t) (numS t).2 : Nat)) : Int)
          omega
        have hnoT : (textS l).1 = false := by rw [hS1.out]; unfold bodyS; rw [if_neg (by simp [hk])]; exact hno
        have hb12 : Below (w.heap.size + 1) (w.alloc (.cells #[.int .i64 0, .bool false, .slice none 0 0, .int .i64 0, .int .i64 0, .bool false] 145)) w2 := by
          have h1 : Below (w.alloc (.cells #[.int .i64 0, .bool false, .slice none 0 0, .int .i64 0, .int .i64 0, .bool false] 145)).heap.size (w.alloc (.cells #[.int .i64 0, .bool false, .slice none 0 0, .int .i64 0, .int .i64 0, .bool false] 145)) w2 := chain hb1 hb2
          simpa using h1
        have f4 : ∀ o, w2.frozen? ⟨w.heap.size, o, none⟩ = false := fun o => by rw [hb12.frozen (p := ⟨w.heap.size, o, none⟩) (by show w.heap.size < _; simp)]; simp
        have c40 : w2.cell? ⟨w.heap.size, 0, none⟩ = some (.int .i64 0) := by rw [hb12.cell (p := ⟨w.heap.size, 0, none⟩) (by show w.heap.size < _; simp)]; simp
        have c41 : w2.cell? ⟨w.heap.size, 1, none⟩ = some (.bool false) := by rw [hb12.cell (p := ⟨w.heap.size, 1, none⟩) (by show w.heap.size < _; simp)]; simp
        have c42 : w2.cell? ⟨w.heap.size, 2, none⟩ = some (.slice none 0 0) := by rw [hb12.cell (p := ⟨w.heap.size, 2, none⟩) (by show w.heap.size < _; simp)]; simp
        have c43 : w2.cell? ⟨w.heap.size, 3, none⟩ = some (.int .i64 0) := by rw [hb12.cell (p := ⟨w.heap.size, 3, none⟩) (by show w.heap.size < _; simp)]; simp
        have c44 : w2.cell? ⟨w.heap.size, 4, none⟩ = some (.int .i64 0) := by rw [hb12.cell (p := ⟨w.heap.size, 4, none⟩) (by show w.heap.size < _; simp)]; simp
        have c45 : w2.cell? ⟨w.heap.size, 5, none⟩ = some (.bool false) := by rw [hb12.cell (p := ⟨w.heap.size, 5, none⟩) (by show w.heap.size < _; simp)]; simp
        have hbw2 := chain hbw hb2
        replace hnoT := Lib.hid hnoT
        clear hb12 hb1 hb2
        go_wp2
        refine bodyPost_ret (v := .tuple #[itemNo, .int .i64 ((textS l).2 : Nat), .int .i64 2]) (by simp [results, Tryz.results89, go_sem, c40, c41, c42, c43, c44, c45, itemNo]) rfl ⟨.inr ⟨hnoT.out, rfl⟩, ?_⟩
        iterate 6 (refine Below.setCell ?_ (by exact Nat.le_refl _) _)
        exact hbw2
end Go.Proofs.YtehpneojiinmdaaGreatDoor
namespace Go.Proofs.YtehpneojiinmdaaGreatDoor
open Go.RowKit Go.Cal
/-- What '[]byte(s)' lays, read. -/
theorem rd_bytes (w : World) (l : List UInt8) (n : Nat) (fr : Nat × Nat) : RdB (w.drew.alloc (.cells (bytesRow (strL l) n) 5 fr)) (w.heap.size + 1) (some ⟨w.heap.size, 0, none⟩) l := by
  refine ⟨.inr ⟨_, _, rfl, by omega⟩, fun b off e i hi => ?_⟩
  injection e with e
  injection e with e1 e2
  subst e1; subst e2
  have h1 : (w.drew.alloc (.cells (bytesRow (strL l) n) 5 fr)).cell? ⟨w.drew.heap.size, 0 + i, none⟩ = (bytesRow (strL l) n)[0 + i]? := World.cell?_alloc_mark _ _ _ _ _
  have h2 : w.drew.heap.size = w.heap.size := rfl
  rw [h2] at h1
  rw [h1, Nat.zero_add]
  have hs : i < (strL l).data.size := by show i < l.toArray.size; simpa using hi
  rw [bytesRow_at _ _ _ hs]
  have : (strL l).data[i] = l.getD i 0 := by
    show l.toArray[i]'_ = _
    simp [List.getD_eq_getElem?_getD, hi]
    rfl
  rw [this]
end Go.Proofs.YtehpneojiinmdaaGreatDoor
namespace Go.Proofs.YtehpneojiinmdaaGreatDoor
open Go.RowKit Go.Cal
/-- A block that a walk has made. -/
def pBlk (g : Nat) (cs : Array Value) (t : TypeId) (w : World) : Prop := w.heap[g]? = some (.cells cs t (0, 0))
theorem pBlk_st (g : Nat) (cs : Array Value) (t : TypeId) : Stable (pBlk g cs t) := fun w w' h hb => by
  have hlt := (Array.getElem?_eq_some_iff.1 h).1
  exact (hb.block g hlt).trans h
theorem pBlk_made (w : World) (cs : Array Value) (t : TypeId) : pBlk w.heap.size cs t (w.alloc (.cells cs t)) := heap_alloc_new w _
theorem pBlk.cell {g : Nat} {cs : Array Value} {t : TypeId} {w : World} (h : pBlk g cs t w) (i : Nat) (v : Value) (hv : cs[i]? = some v) : w.cell? ⟨g, i, none⟩ = some v := by
  rw [cell_of_row w g i cs t (0, 0) h, hv]
theorem stext_t {w : World} {v1 : Value} {k1 X : Nat} (hT : Tab10 w) (h : IsN w v1 k1 X) (b1 : k1 ≤ 1048576) :
    Calls Tryz.prog 84 #[v1] w fun e w' => e = .returned (.string ⟨(Lib.decDigits X).toArray⟩) ∧ Below w.heap.size w w' := by
  obtain ⟨A1, c1, z1, rfl, r1, hc1, hl1, d1, rfl⟩ := h
  exact text_any c1 w r1 hc1 (by omega) d1 hT
end Go.Proofs.YtehpneojiinmdaaGreatDoor
namespace Go.Proofs.YtehpneojiinmdaaGreatDoor
open Go.RowKit Go.Cal
/-- A slice of bytes that is the walk's own: from its first cell on, no cell of it barred. -/
structure OwnB (w : World) (base g cap : Nat) (l : List UInt8) : Prop where
  base : base ≤ g
  lt : g < w.heap.size
  len : l.length ≤ cap
  capb : cap ≤ maxLen
  cells : ∀ i, i < l.length → w.cell? ⟨g, i, none⟩ = some (.int .u8 (((l.getD i 0).toNat : Nat) : Int))
  some : ∀ i, i < cap → (w.cell? ⟨g, i, none⟩).isSome = true
  free : ∀ i, i < cap → w.frozen? ⟨g, i, none⟩ = false
theorem OwnB.rd {w : World} {base g cap : Nat} {l : List UInt8} (h : OwnB w base g cap l) : RdB w w.heap.size (Option.some ⟨g, 0, none⟩) l := by
  refine ⟨.inr ⟨_, _, rfl, h.lt⟩, fun b off e i hi => ?_⟩
  injection e with e
  injection e with e1 e2
  subst e1; subst e2
  rw [Nat.zero_add]
  exact h.cells i hi
theorem OwnB.below {w w' : World} {base g cap : Nat} {l : List UInt8} (h : OwnB w base g cap l) (hb : Below w.heap.size w w') : OwnB w' base g cap l :=
  ⟨h.base, Nat.lt_of_lt_of_le h.lt hb.size, h.len, h.capb, fun i hi => by rw [(bcell hb).1 _ _ h.lt]; exact h.cells i hi, fun i hi => by rw [(bcell hb).1 _ _ h.lt]; exact h.some i hi, fun i hi => by rw [(bcell hb).2 _ _ h.lt]; exact h.free i hi⟩
theorem OwnB.alloc {w : World} {base g cap : Nat} {l : List UInt8} (h : OwnB w base g cap l) (o : Obj) : OwnB (w.alloc o) base g cap l := h.below ((Below.refl _ _).alloc (Nat.le_refl _) o)
theorem OwnB.drew {w : World} {base g cap : Nat} {l : List UInt8} (h : OwnB w base g cap l) : OwnB w.drew base g cap l := ⟨h.base, h.lt, h.len, h.capb, h.cells, h.some, h.free⟩
/-- The beginning of a slice of bytes. -/
theorem RdB.take {w : World} {B : Nat} {A : Option Addr} {l : List UInt8} (h : RdB w B A l) (n : Nat) : RdB w B A (l.take n) := by
  rcases h.place with rfl | ⟨b, off, e, hb⟩
  · exact ⟨.inl List.take_nil, fun _ _ _ i hi => by simp at hi⟩
  · refine ⟨.inr ⟨b, off, e, hb⟩, fun b' off' e' i hi => ?_⟩
    have hi' : i < l.length ∧ i < n := by rw [List.length_take] at hi; omega
    rw [h.cells b' off' e' i hi'.1]
    simp [List.getD_eq_getElem?_getD, hi'.2]
theorem RdB.more {w : World} {B B' : Nat} {A : Option Addr} {l : List UInt8} (h : RdB w B A l) (hb : B ≤ B') : RdB w B' A l :=
  ⟨h.place.imp id (fun ⟨b, off, e, hl⟩ => ⟨b, off, e, Nat.lt_of_lt_of_le hl hb⟩), h.cells⟩
/-- A slice of bytes that came in. -/
def ArgB (w : World) (v : Value) : Prop := ∃ A c l, v = .slice A (l : List UInt8).length c ∧ RdB w w.heap.size A l ∧ (A = none → c = 0) ∧ l.length ≤ c ∧ c ≤ maxLen
/-- The beginning of it. -/
theorem ArgB.cut {w : World} {v : Value} (h : ArgB w v) (n : Nat) : ∃ A c k l, v = .slice A k c ∧ RdB w w.heap.size A l ∧ (min (k : Int) (n : Int) = ((l : List UInt8).length : Int)) ∧ ((l.length : Nat) : Int) ≤ c ∧ c ≤ maxLen ∧ l.length ≤ n := by
  obtain ⟨A, c, l, rfl, h1, h2, h3, h4⟩ := h
  have hl : (l.take n).length = min n l.length := List.length_take
  exact ⟨A, c, l.length, l.take n, rfl, h1.take n, by omega, by omega, h4, by omega⟩
theorem pItemN.setCell {base : Nat} {v : Value} {it : Cal.Item} {w : World} {p : Addr} (u : Value) (h : pItemN base v it w) (hp : p.block < base) : pItemN base v it (w.setCell p u) := by
  obtain ⟨A, c, zs, e, h1, h2, h3, h4, h5, h6⟩ := h
  refine ⟨A, c, zs, e, ?_, h2, h3, h4, h5, h6⟩
  rw [size_setCell]
  exact RdU.apart h1 h6 hp
theorem pBlk.free {g : Nat} {cs : Array Value} {t : TypeId} {w : World} (h : pBlk g cs t w) (i : Nat) : w.frozen? ⟨g, i, none⟩ = false := by
  unfold pBlk at h
  simp [World.frozen?, h]
theorem pBlk.lt {g : Nat} {cs : Array Value} {t : TypeId} {w : World} (h : pBlk g cs t w) : g < w.heap.size := (Array.getElem?_eq_some_iff.1 h).1
end Go.Proofs.YtehpneojiinmdaaGreatDoor
namespace Go.Proofs.YtehpneojiinmdaaGreatDoor
open Go.RowKit Go.Cal
theorem pcaught_idle (g : Nat) (w : World) :
    CallsD Tryz.prog 254 #[.pointer (some ⟨g, 0, none⟩)] .returning w fun e u' w' => e = .returned (.tuple #[]) ∧ u' = .returning ∧ w' = w := by
  refine callsD_of_wpS Tryz.func254 rfl fun c₀ cs hu => ?_
  apply wpS_seq
  apply wpS_region
  simp [wpOpsS, go_sem, recoverD, hu, Tryz.ntmps254, Exit.thenS]
  refine wpS_of_wp ?_
  go_wp2
  cases c₀
  simp_all [bodyPostS, results, Tryz.results254]
set_option maxRecDepth 100000 in
set_option maxHeartbeats 1000000 in
theorem pvalue_any (n key : Nat) (hn : 2 ≤ n) (hn' : n ≤ 64) (h0 : 0 < key) (hkn : key < 2 ^ n) (w : World) (hT : TabD w) :
    Calls Tryz.prog 248 #[.int .i64 (n + 1), .int .u64 key] w fun e w' => e = .returned (.tuple #[.int .u64 ((oddP 64 (poF (poL n key) (key % 2 ^ poL n key)) (4 * poR n key + poE (poL n key) (key % 2 ^ poL n key) - (poL n key - 2 : Nat))).1 : Nat), .int .i64 (oddP 64 (poF (poL n key) (key % 2 ^ poL n key)) (4 * poR n key + poE (poL n key) (key % 2 ^ poL n key) - (poL n key - 2 : Nat))).2, .int .i64 0]) ∧ Below w.heap.size w w' := by
  have hv := fun w hT => pval_any n key hn hn' h0 hkn w hT
  generalize oddP 64 (poF (poL n key) (key % 2 ^ poL n key)) (4 * poR n key + poE (poL n key) (key % 2 ^ poL n key) - (poL n key - 2 : Nat)) = p at hv ⊢
  obtain ⟨m, e⟩ := p
  replace hv := Lib.hid hv
  go_enter_defers Tryz.func248, Tryz.ntmps248
  go_wp2_with fail
  refine (hv.out _ (hT.below ((Below.refl _ _).alloc (Nat.le_refl _) _))).mono ?_
  rintro e1 w1 ⟨rfl, hb⟩
  have hp := pBlk_st _ _ _ _ _ (pBlk_made w #[.int .i64 0] 26) hb
  have q0 := hp.cell 0 _ rfl
  have f0 := hp.free 0
  go_wp2
  show Leaves _ _ _ _ _ .returning _
  refine leaves_cons (f := 254) (args := #[.pointer (some ⟨w.heap.size, 0, none⟩)]) (by simp) (by simp [go_sem]) ?_
  refine (pcaught_idle w.heap.size _).mono ?_
  rintro e1 u1 w8 ⟨rfl, rfl, rfl⟩
  simp [Leaves, settle, results, Tryz.results248, go_sem, q0]
  exact (((Below.refl _ _).alloc (Nat.le_refl _) _).trans (hb.mono (by simp))).setCell (p := ⟨w.heap.size, 0, none⟩) (Nat.le_refl _) _
end Go.Proofs.YtehpneojiinmdaaGreatDoor
namespace Go.Proofs.YtehpneojiinmdaaGreatDoor
open Go.RowKit Go.Cal
/-- The function of a kind. -/
def numI (k : Int) : Nat := if k = 1 then 247 else if k = 2 then 249 else if k = 3 then 251 else 253
/-- The table of the kinds' functions stands in its variable. -/
def NumW (w : World) : Prop := 2 < w.heap.size ∧ ∃ mv, w.cell? ⟨2, 0, none⟩ = some mv ∧ ∀ wr, Below w.heap.size w wr → (∀ k : Int, 1 ≤ k → k ≤ 4 → (Instr.lookup 150 mv (.int .i64 k) false).run Tryz.prog wr = .ok (.func (.func (numI k)) #[] #[]) wr) ∧ (Instr.lookup 150 mv (.int .i64 0) false).run Tryz.prog wr = .ok .nilFunc wr
theorem NumW.below {w w' : World} (h : NumW w) (hb : Below w.heap.size w w') : NumW w' := by
  obtain ⟨h1, mv, h2, h3⟩ := h
  exact ⟨Nat.lt_of_lt_of_le h1 hb.size, mv, by rw [(bcell hb).1 _ _ h1]; exact h2, fun wr hr => h3 wr (hb.trans (hr.mono hb.size))⟩
/-- The variables that values read. -/
structure VaW (w : World) : Prop where
  frm : TabF w
  num : NumW w
  bru : TabD w
theorem VaW.below {w w' : World} (h : VaW w) (hb : Below w.heap.size w w') : VaW w' := ⟨h.frm.below hb, h.num.below hb, h.bru.below hb⟩
theorem fK_bnd (id : Int) : 1 ≤ fK id ∧ fK id ≤ 4 := by unfold fK; split <;> omega
set_option maxRecDepth 100000 in
set_option maxHeartbeats 1000000 in
theorem vof_yes (id : Int) (h1 : 1 ≤ id) (h2 : id < 15) (w : World) (hW : VaW w) :
    Calls Tryz.prog 45 #[.int .i64 id] w fun e w' => e = .returned (.tuple #[.agg #[.int .i64 (fK id), .int .i64 (fW id), .int .i64 (fM id), .int .i64 (fB id), .int .u64 (fT id), .int .u64 (fI id), .int .u64 (fN id), .func (.func (numI (fK id))) #[] #[]], .int .i64 0]) ∧ Below w.heap.size w w' := by
  have hk := fK_bnd id
  go_enter Tryz.func45, Tryz.ntmps45
  go_wp2_with fail
  refine (fo_of id _ (hW.frm.below ((Below.refl _ _).alloc (Nat.le_refl _) _)) h1 h2).mono ?_
  rintro e w1 ⟨rfl, hb⟩
  have hB : Below w.heap.size w w1 := ((Below.refl _ _).alloc (Nat.le_refl _) _).trans (hb.mono (by simp))
  obtain ⟨hn1, mv, hn2, hn3⟩ := hW.num.below hB
  have hl := (hn3 (w1.alloc (.cells #[.int .i64 (fK id), .int .i64 (fW id), .int .i64 (fM id), .int .i64 (fB id), .int .u64 (fT id), .int .u64 (fI id), .int .u64 (fN id)] 25)) ((Below.refl _ _).alloc (Nat.le_refl _) _)).1 (fK id) hk.1 hk.2
  clear hn3
  have hz := hb.size
  simp at hz
  have hp := pBlk_st _ _ _ _ _ (pBlk_st _ _ _ _ _ (pBlk_made w #[.int .i64 0, .int .i64 0, .int .i64 0, .int .i64 0, .int .u64 0, .int .u64 0, .int .u64 0, .nilFunc] 92) hb) ((Below.refl _ _).alloc (Nat.le_refl _) (.cells #[.int .i64 (fK id), .int .i64 (fW id), .int .i64 (fM id), .int .i64 (fB id), .int .u64 (fT id), .int .u64 (fI id), .int .u64 (fN id)] 25))
  have hi : (Tryz.prog.info? 92).map (·.size) = some 8 := by kernel_rfl
  have hone : (#[.int .i64 (fK id), .int .i64 (fW id), .int .i64 (fM id), .int .i64 (fB id), .int .u64 (fT id), .int .u64 (fI id), .int .u64 (fN id), .func (.func (numI (fK id))) #[] #[]] : Array Value).all (·.oneCell') = true := by simp [Value.oneCell']
  go_wp2_with ((with_reducible show wpList _ _ _ (Oper.mk _ (Op.store 92 _ _) _ _ _ _ :: _) _ _); refine wpList_store_whole _ rfl 92 _ _ rfl w.heap.size #[.int .i64 (fK id), .int .i64 (fW id), .int .i64 (fM id), .int .i64 (fB id), .int .u64 (fT id), .int .u64 (fI id), .int .u64 (fN id), .func (.func (numI (fK id))) #[] #[]] #[.int .i64 0, .int .i64 0, .int .i64 0, .int .i64 0, .int .u64 0, .int .u64 0, .int .u64 0, .nilFunc] 92 rfl rfl hp hi rfl hone ?_; intro w2 hp2 hb2 hz2)
  have hB2 : Below w.heap.size w w2 := (hB.alloc hB.size _).trans hb2
  replace hp2 : pBlk w.heap.size #[.int .i64 (fK id), .int .i64 (fW id), .int .i64 (fM id), .int .i64 (fB id), .int .u64 (fT id), .int .u64 (fI id), .int .u64 (fN id), .func (.func (numI (fK id))) #[] #[]] 92 w2 := hp2
  have r0 := hp2.cell 0 _ rfl
  have r1 := hp2.cell 1 _ rfl
  have r2 := hp2.cell 2 _ rfl
  have r3 := hp2.cell 3 _ rfl
  have r4 := hp2.cell 4 _ rfl
  have r5 := hp2.cell 5 _ rfl
  have r6 := hp2.cell 6 _ rfl
  have r7 := hp2.cell 7 _ rfl
  clear hp2 hl hp
  exact bodyPost_ret (v := .tuple #[.agg #[.int .i64 (fK id), .int .i64 (fW id), .int .i64 (fM id), .int .i64 (fB id), .int .u64 (fT id), .int .u64 (fI id), .int .u64 (fN id), .func (.func (numI (fK id))) #[] #[]], .int .i64 0]) (by simp [results, Tryz.results45, go_sem, r0, r1, r2, r3, r4, r5, r6, r7]) rfl ⟨rfl, hB2⟩
set_option maxRecDepth 100000 in
set_option maxHeartbeats 1000000 in
theorem vof_no (id : Int) (h1 : id < 1 ∨ 15 ≤ id) (w : World) (hW : VaW w) :
    Calls Tryz.prog 45 #[.int .i64 id] w fun e w' => e = .returned (.tuple #[.agg #[.int .i64 0, .int .i64 0, .int .i64 0, .int .i64 0, .int .u64 0, .int .u64 0, .int .u64 0, .nilFunc], .int .i64 3]) ∧ Below w.heap.size w w' := by
  have hfn := Lib.hid (fun w => fo_none id w h1)
  clear h1
  go_enter Tryz.func45, Tryz.ntmps45
  go_wp2_with fail
  refine (hfn.out _).mono ?_
  rintro e w1 ⟨rfl, hb⟩
  have hB : Below w.heap.size w w1 := ((Below.refl _ _).alloc (Nat.le_refl _) _).trans (hb.mono (by simp))
  obtain ⟨hn1, mv, hn2, hn3⟩ := hW.num.below hB
  have hl := (hn3 (w1.alloc (.cells #[.int .i64 0, .int .i64 0, .int .i64 0, .int .i64 0, .int .u64 0, .int .u64 0, .int .u64 0] 25)) ((Below.refl _ _).alloc (Nat.le_refl _) _)).2
  clear hn3
  have hz := hb.size
  simp at hz
  have hp := pBlk_st _ _ _ _ _ (pBlk_st _ _ _ _ _ (pBlk_made w #[.int .i64 0, .int .i64 0, .int .i64 0, .int .i64 0, .int .u64 0, .int .u64 0, .int .u64 0, .nilFunc] 92) hb) ((Below.refl _ _).alloc (Nat.le_refl _) (.cells #[.int .i64 0, .int .i64 0, .int .i64 0, .int .i64 0, .int .u64 0, .int .u64 0, .int .u64 0] 25))
  have hi : (Tryz.prog.info? 92).map (·.size) = some 8 := by kernel_rfl
  have hone : (#[.int .i64 0, .int .i64 0, .int .i64 0, .int .i64 0, .int .u64 0, .int .u64 0, .int .u64 0, .nilFunc] : Array Value).all (·.oneCell') = true := by simp [Value.oneCell']
  go_wp2_with ((with_reducible show wpList _ _ _ (Oper.mk _ (Op.store 92 _ _) _ _ _ _ :: _) _ _); refine wpList_store_whole _ rfl 92 _ _ rfl w.heap.size #[.int .i64 0, .int .i64 0, .int .i64 0, .int .i64 0, .int .u64 0, .int .u64 0, .int .u64 0, .nilFunc] #[.int .i64 0, .int .i64 0, .int .i64 0, .int .i64 0, .int .u64 0, .int .u64 0, .int .u64 0, .nilFunc] 92 rfl rfl hp hi rfl hone ?_; intro w2 hp2 hb2 hz2)
  have hB2 : Below w.heap.size w w2 := (hB.alloc hB.size _).trans hb2
  replace hp2 : pBlk w.heap.size #[.int .i64 0, .int .i64 0, .int .i64 0, .int .i64 0, .int .u64 0, .int .u64 0, .int .u64 0, .nilFunc] 92 w2 := hp2
  have r0 := hp2.cell 0 _ rfl
  have r1 := hp2.cell 1 _ rfl
  have r2 := hp2.cell 2 _ rfl
  have r3 := hp2.cell 3 _ rfl
  have r4 := hp2.cell 4 _ rfl
  have r5 := hp2.cell 5 _ rfl
  have r6 := hp2.cell 6 _ rfl
  have r7 := hp2.cell 7 _ rfl
  clear hp2 hl hp
  exact bodyPost_ret (v := .tuple #[.agg #[.int .i64 0, .int .i64 0, .int .i64 0, .int .i64 0, .int .u64 0, .int .u64 0, .int .u64 0, .nilFunc], .int .i64 3]) (by simp [results, Tryz.results45, go_sem, r0, r1, r2, r3, r4, r5, r6, r7]) rfl ⟨rfl, hB2⟩
theorem shape_size : (Tryz.prog.info? 92).map (·.size) = some 8 := by kernel_rfl
theorem cells8 {w : World} {g : Nat} {a b c d e f h i : Value} {t : TypeId} (hp : w.heap[g]? = some (.cells #[a, b, c, d, e, f, h, i] t (0, 0))) :
    w.cell? ⟨g, 0, none⟩ = some a ∧ w.cell? ⟨g, 1, none⟩ = some b ∧ w.cell? ⟨g, 2, none⟩ = some c ∧ w.cell? ⟨g, 3, none⟩ = some d ∧ w.cell? ⟨g, 4, none⟩ = some e ∧ w.cell? ⟨g, 5, none⟩ = some f ∧ w.cell? ⟨g, 6, none⟩ = some h ∧ w.cell? ⟨g, 7, none⟩ = some i := by
  have hp : pBlk g #[a, b, c, d, e, f, h, i] t w := hp
  exact ⟨hp.cell 0 _ rfl, hp.cell 1 _ rfl, hp.cell 2 _ rfl, hp.cell 3 _ rfl, hp.cell 4 _ rfl, hp.cell 5 _ rfl, hp.cell 6 _ rfl, hp.cell 7 _ rfl⟩
/-- What Most tells. -/
def mostR (id : Int) (neg : Bool) : Int := if mostE id neg = 0 then mostV id neg else 0
theorem most_cases (id : Int) (neg : Bool) : ((id < 1 ∨ 15 ≤ id) ∧ mostE id neg = 3 ∧ mostR id neg = 0) ∨ (1 ≤ id ∧ id < 15 ∧
    ((neg = false ∧ mostE id neg = 0 ∧ mostR id neg = fT id) ∨ (neg = true ∧ (fK id == 4) = true ∧ mostE id neg = 5 ∧ mostR id neg = 0) ∨
     (neg = true ∧ (fK id == 4) = false ∧ (fK id == 3) = true ∧ 0 ≤ fT id ∧ fT id ≤ 127 ∧ mostE id neg = 0 ∧ mostR id neg = fT id + 1) ∨ (neg = true ∧ (fK id == 4) = false ∧ (fK id == 3) = false ∧ mostE id neg = 0 ∧ mostR id neg = fT id))) := by
  by_cases hid : id < 1 ∨ 15 ≤ id
  · left
    have hE : mostE id neg = 3 := by unfold mostE; rw [if_pos hid]
    exact ⟨hid, hE, by unfold mostR; rw [hE]; rfl⟩
  · right
    have h1 : 1 ≤ id := by omega
    have h2 : id < 15 := by omega
    refine ⟨h1, h2, ?_⟩
    rcases id_cases h1 h2 with rfl | rfl | rfl | rfl | rfl | rfl | rfl | rfl | rfl | rfl | rfl | rfl | rfl | rfl <;> cases neg <;> decide +kernel
set_option maxRecDepth 100000 in
set_option maxHeartbeats 1000000 in
theorem vmost_any (id : Int) (neg : Bool) (w : World) (hW : VaW w) :
    Calls Tryz.prog 107 #[.int .i64 id, .bool neg] w fun e w' => e = .returned (.tuple #[.int .u64 (mostR id neg), .int .i64 (mostE id neg)]) ∧ Below w.heap.size w w' := by
  rcases most_cases id neg with ⟨hid, hE, hR⟩ | ⟨h1, h2, ⟨rfl, hE, hR⟩ | ⟨rfl, h4, hE, hR⟩ | ⟨rfl, h4, h3, hT, hT', hE, hR⟩ | ⟨rfl, h4, h3, hE, hR⟩⟩
  · rw [hE, hR]
    have hfn := Lib.hid (fun w hW => vof_no id hid w hW)
    clear hid hE hR
    go_enter Tryz.func107, Tryz.ntmps107
    go_wp2_with fail
    refine (hfn.out _ hW).mono ?_
    rintro e w1 ⟨rfl, hb⟩
    go_wp2_with ((with_reducible show wpList _ _ _ (Oper.mk _ (Op.store 92 _ _) _ _ _ _ :: _) _ _); refine wpList_store_whole _ rfl 92 _ _ rfl (w1).heap.size #[.int .i64 0, .int .i64 0, .int .i64 0, .int .i64 0, .int .u64 0, .int .u64 0, .int .u64 0, .nilFunc] #[.int .i64 0, .int .i64 0, .int .i64 0, .int .i64 0, .int .u64 0, .int .u64 0, .int .u64 0, .nilFunc] 92 rfl rfl (pBlk_made w1 #[.int .i64 0, .int .i64 0, .int .i64 0, .int .i64 0, .int .u64 0, .int .u64 0, .int .u64 0, .nilFunc] 92) shape_size rfl (by simp [Value.oneCell']) ?_; intro w2 hp2 hb2 hz2; obtain ⟨r0, r1, r2, r3, r4, r5, r6, r7⟩ := cells8 hp2)
    go_ret2
    exact ⟨rfl, (hb.alloc hb.size _).trans (hb2.mono hb.size)⟩
  all_goals
    rw [hE, hR]
    have hfn := Lib.hid (fun w hW => vof_yes id h1 h2 w hW)
    have hk := fK_bnd id
    clear hE hR
    go_enter Tryz.func107, Tryz.ntmps107
    go_wp2_with fail
    refine (hfn.out _ hW).mono ?_
    rintro e w1 ⟨rfl, hb⟩
    go_wp2_with ((with_reducible show wpList _ _ _ (Oper.mk _ (Op.store 92 _ _) _ _ _ _ :: _) _ _); refine wpList_store_whole _ rfl 92 _ _ rfl (w1).heap.size #[.int .i64 (fK id), .int .i64 (fW id), .int .i64 (fM id), .int .i64 (fB id), .int .u64 (fT id), .int .u64 (fI id), .int .u64 (fN id), .func (.func (numI (fK id))) #[] #[]] #[.int .i64 0, .int .i64 0, .int .i64 0, .int .i64 0, .int .u64 0, .int .u64 0, .int .u64 0, .nilFunc] 92 rfl rfl (pBlk_made w1 #[.int .i64 0, .int .i64 0, .int .i64 0, .int .i64 0, .int .u64 0, .int .u64 0, .int .u64 0, .nilFunc] 92) shape_size rfl (by simp [Value.oneCell']) ?_; intro w2 hp2 hb2 hz2; obtain ⟨r0, r1, r2, r3, r4, r5, r6, r7⟩ := cells8 hp2)
    go_ret2
    exact ⟨rfl, (hb.alloc hb.size _).trans (hb2.mono hb.size)⟩
end Go.Proofs.YtehpneojiinmdaaGreatDoor
