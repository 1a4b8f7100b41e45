/- The nat layer: Text. Conditions: lengths below 2^32; the table of powers reads as it is laid. -/
/- The nat layer: Parse. Conditions: none but a text's reach. -/
/- The nat layer, by values: what each call tells, where a list of live numbers is kept. Conditions: a number's words are counted. -/
/- What the rows of the nat layer share: the tables out of the row's condition, a slice of words out of an argument. Conditions: none. -/
import Derived.Test.YtdlkfnkmdlcekaaGreatDoorTp12
import Derived.Test.YtdlkfnkmdlcekaaGreatDoorTp00
import Derived.Lib.EndianMore
import Derived.Deep.LoopGhost
import Derived.RangeFuncBox
import Derived.Shelf.Strings.SlTrimAscii
import Derived.Lib.ParseIntBCases
import Derived.Lib.SmallJoins
import Derived.Test.YtdlkfnkmdlcekaaGreatDoorCards
import Derived.Test.YtdlkfnkmdlcekaaGreatDoorTie
import Derived.ProofKit
import Derived.LaidMore
import Derived.OpenShut
import Derived.Lay
import Derived.SevenTiedAt
import Derived.Stop.Joined
import Derived.Lib.LaidTab
namespace Go.Proofs.YtdlkfnkmdlcekaaGreatDoor
open Go.RowKit Go.Cal
theorem info_str : (Tryz.prog.info? 9).map (fun i => (i.zero, i.size, i.bytes)) = some (some (.string ⟨#[]⟩), 1, 16) := by kernel_rfl
theorem under_strs : Tryz.prog.underlying 46 = some (.slice 9) := by kernel_rfl
theorem grown_of_below {w w' : World} {row : Option Nat} (h : Below w.heap.size w w') : w.grownBy w' row := ⟨h.os, h.tape, h.output, h.size, fun j hj _ => h.block j hj⟩
theorem own_below {w w' : World} {base : Nat} {e : TypeId} {size : Nat} {v : Value} {n : Nat} {xs : List Value} (h : w.ownsRow base e size v n xs) (hb : Below w.heap.size w w') : w'.ownsRow base e size v n xs :=
  h.kept (grown_of_below (row := none) hb) (by cases hv : v.ownBlock <;> simp)
theorem gotU_grown {w w' : World} {base : Nat} {A : Option Addr} {c : Nat} {zs : List Nat} {row : Option Nat} (h : GotU w base A c zs) (hg : w.grownBy w' row) (hr : ∀ j, row = some j → j < base) : GotU w' base A c zs := by
  rcases h.own with rfl | ⟨b, off, rfl, hb, hf⟩
  · exact ⟨.nil, h.cap, h.small, .inl rfl, h.full⟩
  · rcases h.rd.place with rfl | ⟨b', off', e, hlt⟩
    · exact ⟨.nil, h.cap, h.small, .inl rfl, h.full⟩
    · injection e with e
      injection e with e1 e2
      subst e1; subst e2
      have hblk := hg.block b hlt (fun e => by have := hr b e.symm; omega)
      refine ⟨⟨.inr ⟨b, off, rfl, Nat.lt_of_lt_of_le hlt hg.size⟩, fun b' off' e i hi => ?_⟩, h.cap, h.small, .inr ⟨b, off, rfl, hb, fun i hi => ?_⟩, h.full⟩
      · injection e with e
        injection e with e1 e2
        subst e1; subst e2
        rw [World.cell?_of_block hblk]
        exact h.rd.cells b off rfl i hi
      · have := hf i hi
        simp only [World.frozen?] at this ⊢
        rw [hblk]
        exact this
theorem gotU_alloc {w : World} {base : Nat} {A : Option Addr} {c : Nat} {zs : List Nat} (h : GotU w base A c zs) (o : Obj) : GotU (w.alloc o) base A c zs := h.below ((Below.refl _ _).alloc (Nat.le_refl _) o)
theorem str_cat (a b : List UInt8) : (⟨a.toArray⟩ : ByteArray) ++ ⟨b.toArray⟩ = ⟨(a ++ b).toArray⟩ := by
  apply ByteArray.ext
  simp
/-- Strings as cells. -/
def sV (ps : List (List UInt8)) : List Value := ps.map fun p => Value.string ⟨p.toArray⟩
theorem sV_snoc (ps : List (List UInt8)) (p : List UInt8) : sV ps ++ [.string ⟨p.toArray⟩] = sV (ps ++ [p]) := by simp [sV]
/-- At the head of a round: what is left of the number, and the chunks so far, the lowest first. -/
structure TextRel (N N' : Nat) (ps : List (List UInt8)) : Prop where
  txt : Lib.decDigits N = Lib.decDigits N' ++ ps.reverse.flatten
  cnt : N' * 2 ^ ps.length ≤ N
  pos : ps = [] ∨ 1 ≤ N'
theorem TextRel.start (N : Nat) : TextRel N N [] := ⟨by simp, by simp, .inl rfl⟩
theorem TextRel.step {N N' : Nat} {ps : List (List UInt8)} (h : TextRel N N' ps) (hN : 10000000000000000000 ≤ N') :
    TextRel N (N' / 10000000000000000000) (ps ++ [List.replicate (19 - (Lib.decDigits (N' % 10000000000000000000)).length) 48 ++ Lib.decDigits (N' % 10000000000000000000)]) := by
  have hq : 1 ≤ N' / 10000000000000000000 := by omega
  refine ⟨?_, ?_, .inr hq⟩
  · have e := dec_chunk (q := N' / 10000000000000000000) (r := N' % 10000000000000000000) (k := 19) hq (by omega) (Nat.mod_lt _ (by omega))
    have e2 : N' / 10000000000000000000 * 10 ^ 19 + N' % 10000000000000000000 = N' := by rw [show 10 ^ 19 = 10000000000000000000 from rfl]; omega
    rw [e2] at e
    rw [h.txt, e]
    simp
  · have h1 := h.cnt
    have h2 : N' / 10000000000000000000 * 2 ≤ N' := by omega
    simp only [List.length_append, List.length_singleton, Nat.pow_succ]
    have h3 := Nat.mul_le_mul_right (2 ^ ps.length) h2
    rw [Nat.mul_assoc, Nat.mul_comm 2] at h3
    omega
theorem TextRel.few {N N' k : Nat} {ps : List (List UInt8)} (h : TextRel N N' ps) (hN : N < 2 ^ k) : ps.length ≤ k := by
  rcases h.pos with rfl | h1
  · simp
  · rcases Nat.lt_or_ge k ps.length with hlt | hge
    · exfalso
      have h2 := h.cnt
      have h3 : 2 ^ k ≤ 2 ^ ps.length := Nat.pow_le_pow_right (by omega) (by omega)
      have h4 : 1 * 2 ^ ps.length ≤ N' * 2 ^ ps.length := Nat.mul_le_mul_right _ h1
      omega
    · exact hge
/-- The test of the loop. -/
theorem nrm_great {zs : List Nat} {N : Nat} (h : Nrm zs N) : (1 < zs.length → 10000000000000000000 ≤ N) ∧ (¬ 1 < zs.length → zs.getD 0 0 = N) := by
  refine ⟨fun hl => ?_, fun hl => ?_⟩
  · have h1 := vl_pos (b := 18446744073709551616) h.top (by intro e; subst e; simp at hl)
    rw [h.val] at h1
    have h2 : 18446744073709551616 ^ 1 ≤ 18446744073709551616 ^ (zs.length - 1) := Nat.pow_le_pow_right (by omega) (by omega)
    omega
  · have hv := h.val
    match zs, hl with
    | [], _ => simpa [vl] using hv
    | [x], _ => simpa [vl] using hv
    | x :: y :: l, hl => simp at hl
def sX (L : List (List UInt8)) (i : Nat) : ByteArray := ⟨(L.getD i []).toArray⟩
theorem strsOf_sX (L : List (List UInt8)) : Lib.strsOf (sX L) L.length = L := by
  apply List.ext_getElem
  · simp [Lib.strsOf]
  · intro i h1 h2
    simp [Lib.strsOf, sX, List.getD_eq_getElem?_getD, h2]
theorem sV_cell {w : World} {B g n cap : Nat} {L : List (List UInt8)} (h : w.ownsRow B 9 1 (.slice (some ⟨g, 0, none⟩) n cap) n (sV L)) (hn : n = L.length) (i : Nat) (hi : i < n) : w.cell? ⟨g, 0 + i, none⟩ = some (.string (sX L i)) := by
  subst hn
  rw [Nat.zero_add, h.cellAt i (by omega)]
  simp [sV, sX, List.getD_eq_getElem?_getD, hi]
theorem rev_cell {w : World} {B g n cap q : Nat} {L : List (List UInt8)} (h : w.ownsRow B 9 1 (.slice (some ⟨g, 0, none⟩) n cap) n (sV L)) (hn : n = L.length) (j : Nat) (x : ByteArray) (hj : (L.reverse.map fun l => (⟨l.toArray⟩ : ByteArray))[j]? = some x) :
    ((w.drewN q).setCells g 0 (L.reverse.map encStr)).cell? ⟨g, 0 + j, none⟩ = some (.string x) := by
  have hlt : j < L.length := by
    have := (List.getElem?_eq_some_iff.1 hj).1
    simpa using this
  rw [World.cell?_setCells_in g (L.reverse.map encStr) 0 (w.drewN q) (fun i hi => by
    simp only [List.length_map, List.length_reverse] at hi
    have := sV_cell h hn i (by omega)
    rw [World.cell?_drewN, this]; rfl) j (by simpa using hlt)]
  have hj2 : (L.reverse.map fun l => (⟨l.toArray⟩ : ByteArray))[j]'(by simpa using hlt) = x := by
    have := List.getElem?_eq_getElem (l := L.reverse.map fun l => (⟨l.toArray⟩ : ByteArray)) (i := j) (by simpa using hlt)
    rw [this] at hj
    exact Option.some.inj hj
  rw [← hj2]
  simp [encStr]
set_option maxRecDepth 100000 in
set_option maxHeartbeats 4000000 in
theorem text_any {A : Option Addr} {xs : List Nat} (c : Nat) (w : World) (h : RdU w w.heap.size A xs) (hc : xs.length ≤ c) (hn : xs.length ≤ 4294967296) (d : Dig 18446744073709551616 xs) (hT : Tab10 w) :
    Calls Tryz.prog 28 #[.slice A xs.length c] w fun e w' => e = .returned (.string ⟨(Lib.decDigits (vl 18446744073709551616 xs)).toArray⟩) ∧ Below w.heap.size w w' := by
  obtain ⟨i0, hi, hi0, hi1, hi2⟩ := info_parts info_str
  have hN : vl 18446744073709551616 xs < 2 ^ (64 * xs.length) := by
    have := vl_lt d
    rwa [show 18446744073709551616 = 2 ^ 64 from rfl, ← Nat.pow_mul] at this
  obtain ⟨N, hNe⟩ : ∃ N, vl 18446744073709551616 xs = N := ⟨_, rfl⟩
  rw [hNe] at hN ⊢
  replace hNe := Lib.hid hNe
  go_enter Tryz.func28, Tryz.ntmps28
  go_wp2_with fail
  refine (trim_nat _ _ h hc (by omega) d).mono ?_
  rintro e w1 ⟨⟨zs, rfl, r1, t1, e1, v1, l1⟩, rfl⟩
  rw [hNe.out] at v1
  have n1 : Nrm zs N := ⟨e1, t1, v1⟩
  clear h d v1 e1 t1 hNe
  go_wp2
  go_loopg [0, 3] N (fun N' av lv wr => ∃ (A' : Option Addr) (c' : Nat) (zs' : List Nat) (ps : List (List UInt8)), av = .slice A' zs'.length c' ∧ RdU wr wr.heap.size A' zs' ∧ zs'.length ≤ xs.length ∧ Nrm zs' N' ∧
    wr.ownsRow w.heap.size 9 1 lv ps.length (sV ps) ∧ Below w.heap.size w wr ∧ TextRel N N' ps)
  case atStart => exact ⟨A, zs.length, zs, [], rfl, r1, l1, n1, World.ownsRow_nil _ _ _ _, .refl _ _, .start N⟩
  case round =>
    clear r1 n1 l1
    obtain ⟨A', c', zs', ps, rfl, r1, l1, n1, hown, hbw, hR⟩ := hrel
    have hzw := hbw.size
    have hat := at_any c' 0 wr r1
    obtain ⟨hg1, hg2⟩ := nrm_great n1
    by_cases hgt : 10000000000000000000 ≤ gk
    · -- one chunk more
      have hst := hR.step hgt
      have hps := hR.few hN
      have hsh := short_any c' 10000000000000000000 wr r1 (by omega) n1.dig (by omega) (by omega)
      rw [n1.val] at hsh
      obtain ⟨M, hM⟩ : ∃ M, gk / 10000000000000000000 = M := ⟨_, rfl⟩
      obtain ⟨R, hRe⟩ : ∃ R, gk % 10000000000000000000 = R := ⟨_, rfl⟩
      have hRb : R < 10000000000000000000 := by omega
      have hMb : M < gk := by omega
      have hRl := (padd_dec 19 R (by omega) (by rw [show 10 ^ 19 = 10000000000000000000 from rfl]; exact hRb)).2
      rw [hM, hRe] at hst
      unfold RetShort at hsh
      rw [hM, hRe] at hsh
      replace hM := Lib.hid hM
      replace hRe := Lib.hid hRe
      replace hsh := Lib.hid hsh
      replace hgt := Lib.hid hgt
      replace hN := Lib.hid hN
      replace hMb := Lib.hid hMb
      replace hRb := Lib.hid hRb
      have hn1 := n1
      clear n1
      have hrep := fun (W : World) => Tryz.strings_Repeat ⟨#[48]⟩ (19 - (Lib.decDigits R).length) W (by omega) (by show 1 * _ ≤ _; omega)
      have hsub : (19 : Int) - ((Lib.decDigits R).length : Int) = ((19 - (Lib.decDigits R).length : Nat) : Int) := by omega
      replace hrep := Lib.hid hrep
      by_cases hl : 1 < zs'.length
      · have hl' : (1 : Int) < (zs'.length : Int) := by omega
        go_wp2_with fail
        refine hsh.out.mono ?_
        rintro e w1 ⟨A1, c1, z1, rfl, g1, n1, hb1⟩
        have hz1 := hb1.size
        have hT1 : Tab10 w1 := hT.below (chain hbw hb1)
        go_wp2_with fail
        refine (formatUint_any R (by have := hRb.out; omega) w1 hT1).mono ?_
        rintro e w2 ⟨rfl, hb2⟩
        have hz2' := hb2.size
        have hrl : (Lib.repeatL [48] (19 - (Lib.decDigits R).length)).length ≤ 19 := by rw [repeat_one, List.length_replicate]; omega
        go_wp2_with fail
        refine (hrep.out w2).mono ?_
        rintro e w3 ⟨rfl, hb3⟩
        have hz3 := hb3.size
        have hown3 := own_below (own_below (own_below hown hb1) hb2) hb3
        go_wp2_with (at_builtin; go_loud (refine wpList_append_own _ rfl _ _ 46 rfl w.heap.size 9 i0 (.string ⟨#[]⟩) 1 16 under_strs hi hi0 hi1 hi2 rfl (by decide) u3 _ _ rfl (hown3.alloc _) ⟨w3.heap.size, 0, none⟩ 1 1 [.string ((⟨(Lib.repeatL [48] (19 - (Lib.decDigits R).length)).toArray⟩ : ByteArray) ++ (⟨(Lib.decDigits R).toArray⟩ : ByteArray))] rfl rfl ?c1 ?c2 ?c3 ?c4 ?c5 ?_))
        case c1 =>
          intro j u hj
          rcases j with _ | j
          · simp at hj
            subst hj
            simp [Addr.add_lit]
          · simp at hj
        case c2 => intro u hu; simp at hu; subst hu; rfl
        case c3 => unfold maxLen; omega
        case c4 => omega
        case c5 => simp; omega
        intro v' w5 hown' hgr _
        rw [str_cat, repeat_one, sV_snoc] at hown'
        have hb5 := ((chain (chain (chain hbw hb1) hb2) hb3).alloc (by omega) _).grown hgr (by simp; omega) (fun j hj => (hown3.lt j hj).1)
        have r5 := (gotU_grown (gotU_alloc ((g1.below hb2).below hb3) _) hgr (fun j hj => (hown.lt j hj).2)).rd
        rw [show ps.length + 1 = (ps ++ [List.replicate (19 - (Lib.decDigits R).length) 48 ++ Lib.decDigits R]).length by simp] at hown'
        have hl1 : z1.length ≤ xs.length := Nat.le_trans (nrm_len_le n1 hn1 (Nat.le_of_lt hMb.out)) l1
        clear hown hown3 hat r1
        go_wp2
        go_roundg M
        case measure => exact hMb.out
        case rel => exact ⟨A1, c1, z1, _, rfl, r5, hl1, n1, hown', hb5, hst⟩
      · have hl' : ¬ (1 : Int) < (zs'.length : Int) := by omega
        rw [hg2 hl] at hat
        have hgt' : (10000000000000000000 : Int) ≤ (gk : Int) := by have := hgt.out; omega
        replace hat := Lib.hid hat
        go_wp2_with fail
        refine hat.out.mono ?_
        rintro e w' ⟨rfl, rfl⟩
        go_wp2_with fail
        refine hsh.out.mono ?_
        rintro e w1 ⟨A1, c1, z1, rfl, g1, n1, hb1⟩
        have hz1 := hb1.size
        have hT1 : Tab10 w1 := hT.below (chain hbw hb1)
        go_wp2_with fail
        refine (formatUint_any R (by have := hRb.out; omega) w1 hT1).mono ?_
        rintro e w2 ⟨rfl, hb2⟩
        have hz2' := hb2.size
        have hrl : (Lib.repeatL [48] (19 - (Lib.decDigits R).length)).length ≤ 19 := by rw [repeat_one, List.length_replicate]; omega
        go_wp2_with fail
        refine (hrep.out w2).mono ?_
        rintro e w3 ⟨rfl, hb3⟩
        have hz3 := hb3.size
        have hown3 := own_below (own_below (own_below hown hb1) hb2) hb3
        go_wp2_with (at_builtin; go_loud (refine wpList_append_own _ rfl _ _ 46 rfl w.heap.size 9 i0 (.string ⟨#[]⟩) 1 16 under_strs hi hi0 hi1 hi2 rfl (by decide) u3 _ _ rfl (hown3.alloc _) ⟨w3.heap.size, 0, none⟩ 1 1 [.string ((⟨(Lib.repeatL [48] (19 - (Lib.decDigits R).length)).toArray⟩ : ByteArray) ++ (⟨(Lib.decDigits R).toArray⟩ : ByteArray))] rfl rfl ?c1 ?c2 ?c3 ?c4 ?c5 ?_))
        case c1 =>
          intro j u hj
          rcases j with _ | j
          · simp at hj
            subst hj
            simp [Addr.add_lit]
          · simp at hj
        case c2 => intro u hu; simp at hu; subst hu; rfl
        case c3 => unfold maxLen; omega
        case c4 => omega
        case c5 => simp; omega
        intro v' w5 hown' hgr _
        rw [str_cat, repeat_one, sV_snoc] at hown'
        have hb5 := ((chain (chain (chain hbw hb1) hb2) hb3).alloc (by omega) _).grown hgr (by simp; omega) (fun j hj => (hown3.lt j hj).1)
        have r5 := (gotU_grown (gotU_alloc ((g1.below hb2).below hb3) _) hgr (fun j hj => (hown.lt j hj).2)).rd
        rw [show ps.length + 1 = (ps ++ [List.replicate (19 - (Lib.decDigits R).length) 48 ++ Lib.decDigits R]).length by simp] at hown'
        have hl1 : z1.length ≤ xs.length := Nat.le_trans (nrm_len_le n1 hn1 (Nat.le_of_lt hMb.out)) l1
        clear hown hown3 hat r1
        go_wp2
        go_roundg M
        case measure => exact hMb.out
        case rel => exact ⟨A1, c1, z1, _, rfl, r5, hl1, n1, hown', hb5, hst⟩
    · have hl : ¬ 1 < zs'.length := fun h => hgt (hg1 h)
      have hl' : ¬ (1 : Int) < (zs'.length : Int) := by omega
      rw [hg2 hl] at hat
      have hgt' : decide ((10000000000000000000 : Int) ≤ (gk : Int)) = false := by rw [decide_eq_false_iff_not]; omega
      have hg64 := Lib.hid (show gk < 18446744073709551616 by omega)
      have hps := hR.few hN
      have hTr : Tab10 wr := hT.below hbw
      have htx := hR.txt
      have hdl := dec_len_bound (k := 64 * xs.length + 1) (Nat.lt_of_lt_of_le hN (Nat.pow_le_pow_right (by omega) (Nat.le_succ _))) (by omega)
      replace hat := Lib.hid hat
      replace htx := Lib.hid htx
      replace hN := Lib.hid hN
      clear hgt hl n1 hg1 hg2 hR
      go_wp2_with fail
      refine hat.out.mono ?_
      rintro e w' ⟨rfl, rfl⟩
      go_wp2_with fail
      refine hat.out.mono ?_
      rintro e w' ⟨rfl, rfl⟩
      go_wp2_with fail
      refine (formatUint_any gk hg64.out wr hTr).mono ?_
      rintro e w1 ⟨rfl, hb1⟩
      have hz1 := hb1.size
      have hown1 := own_below hown hb1
      go_wp2_with (at_builtin; refine wpList_append_own _ rfl _ _ 46 rfl w.heap.size 9 i0 (.string ⟨#[]⟩) 1 16 under_strs hi hi0 hi1 hi2 rfl (by decide) u3 _ _ rfl (hown1.alloc _) ⟨w1.heap.size, 0, none⟩ 1 1 [.string ⟨(Lib.decDigits gk).toArray⟩] rfl rfl ?c1 ?c2 ?c3 ?c4 ?c5 ?_)
      case c1 =>
        intro j u hj
        rcases j with _ | j
        · simp at hj
          subst hj
          simp [Addr.add_lit]
        · simp at hj
      case c2 => intro u hu; simp at hu; subst hu; rfl
      case c3 => unfold maxLen; omega
      case c4 => omega
      case c5 => simp; omega
      intro v' w5 hown' hgr _
      rw [sV_snoc] at hown'
      have hb5 := ((chain hbw hb1).alloc (by omega) _).grown hgr (by simp; omega) (fun j hj => (hown1.lt j hj).1)
      obtain ⟨g, cap, rfl⟩ := ownsRow_succ hown'
      obtain ⟨L, hL⟩ : ∃ L, ps ++ [Lib.decDigits gk] = L := ⟨_, rfl⟩
      rw [hL] at hown'
      have hLl : ps.length + 1 = L.length := by rw [← hL]; simp
      have hfl : L.reverse.flatten = Lib.decDigits N := by rw [← hL, htx.out]; simp
      rw [hLl] at hown' ⊢
      have hgb := hown'.lt g rfl
      have hrv := Tryz.slices_Reverse_string_cells g 0 L.length cap (sX L) w5 (by omega) (fun i hi => sV_cell hown' rfl i hi) (fun j _ => by rw [Nat.zero_add]; exact hown'.frozenAt j)
      rw [strsOf_sX] at hrv
      have hcap : L.length ≤ cap := by
        rcases hown'.2 with ⟨h0, _⟩ | ⟨g', cap', cur, h', _, _, hcc, _⟩
        · cases h0
        · injection h' with _ _ h2
          omega
      have hsum : (Lib.join ((L.reverse.map fun l => (⟨l.toArray⟩ : ByteArray)).map (·.data.toList)) []) = Lib.decDigits N := by
        rw [join_empty, List.map_map, ← hfl]
        congr 1
        exact List.map_id' _
      have hjn := fun q => Tryz.strings_Join g 0 cap (L.reverse.map fun l => (⟨l.toArray⟩ : ByteArray)) ⟨#[]⟩ ((w5.drewN q).setCells g 0 (L.reverse.map encStr)) (fun j x hj => rev_cell hown' rfl j x hj)
        (Nat.lt_of_lt_of_le hgb.2 (Lib.below_setCells_w (B := 0) (Nat.zero_le _) _ _ (w5.drewN q)).size) (by simp; omega) (by simpa using hcap) (by rw [hsum]; omega)
      rw [hsum] at hjn
      simp only [List.length_map, List.length_reverse] at hjn
      have hfin := fun q => hb5.trans ((Drawn.below (B := w.heap.size) ⟨q, rfl⟩).trans (Lib.below_setCells_w hgb.1 (L.reverse.map encStr) 0 (w5.drewN q)))
      have hLl2 : (ps.length : Int) + 1 = (L.length : Int) := by omega
      replace hLl := Lib.hid hLl
      replace hL := Lib.hid hL
      replace hfl := Lib.hid hfl
      replace hsum := Lib.hid hsum
      replace hrv := Lib.hid hrv
      replace hjn := Lib.hid hjn
      replace hfin := Lib.hid hfin
      replace hown' := Lib.hid hown'
      clear hown hown1 hgr
      go_wp2_with fail
      refine hrv.out.mono ?_
      rintro e w6 ⟨rfl, q, rfl⟩
      go_wp2_with fail
      rw [← List.map_reverse]
      refine (hjn.out q).mono ?_
      rintro e w7 ⟨rfl, hb7⟩
      go_wp2
      go_ret
      exact ⟨rfl, chain (hfin.out q) hb7⟩
end Go.Proofs.YtdlkfnkmdlcekaaGreatDoor
namespace Go.Proofs.YtdlkfnkmdlcekaaGreatDoor
open Go.RowKit Go.Cal
/-- Is a text one of a number? -/
structure POk (l : List UInt8) : Prop where
  ne : l ≠ []
  len : l.length ≤ 2000
  head : l.head? = some 48 → l.length ≤ 1
  dig : ∀ c ∈ l, isDig c = true
def d10 : List UInt8 := [48, 49, 50, 51, 52, 53, 54, 55, 56, 57]
theorem d10_contains (c : UInt8) : d10.contains c = isDig c := by
  have h : ∀ n : Fin 256, d10.contains (UInt8.ofNat n.val) = isDig (UInt8.ofNat n.val) := by decide +kernel
  have := h ⟨c.toNat, c.toNat_lt⟩
  simpa using this
theorem dropWhile_none {p : UInt8 → Bool} : ∀ (l : List UInt8), (∀ x ∈ l.dropWhile p, p x = true) → l.dropWhile p = []
  | [], _ => rfl
  | x :: l, h => by
    by_cases hx : p x = true
    · rw [List.dropWhile_cons_of_pos hx] at h ⊢
      exact dropWhile_none l h
    · rw [List.dropWhile_cons_of_neg hx] at h
      exact absurd (h x (by simp)) hx
theorem dropWhile_all {p : UInt8 → Bool} : ∀ (l : List UInt8), l.dropWhile p = [] ↔ ∀ x ∈ l, p x = true
  | [] => by simp
  | x :: l => by
    by_cases hx : p x = true
    · rw [List.dropWhile_cons_of_pos hx, dropWhile_all l]
      simp [hx]
    · rw [List.dropWhile_cons_of_neg hx]
      simp [hx]
theorem trim_digs (l : List UInt8) : Lib.trimS l d10 = [] ↔ ∀ c ∈ l, isDig c = true := by
  have hd : ∀ m : List UInt8, m.dropWhile (d10.contains ·) = [] ↔ ∀ c ∈ m, isDig c = true := fun m => by
    rw [dropWhile_all]
    simp only [d10_contains]
  unfold Lib.trimS Lib.trimLeftS
  rw [hd]
  constructor
  · intro h
    have h2 : ∀ x ∈ l.reverse.dropWhile (d10.contains ·), d10.contains x = true := fun x hx => by
      rw [d10_contains]; exact h x (by unfold Lib.trimRightS; simpa using hx)
    have h3 := (hd _).1 (dropWhile_none _ h2)
    exact fun c hc => h3 c (by simpa using hc)
  · intro h c hc
    have h3 := (hd l.reverse).2 (fun c hc => h c (by simpa using hc))
    unfold Lib.trimRightS at hc
    rw [h3] at hc
    simp at hc
theorem uint_chunk : ∀ (l : List UInt8) (acc : Nat), (∀ c ∈ l, isDig c = true) → acc * 10 ^ l.length + numV l < 10000000000000000000 → Lib.parseUintM 18446744073709551615 acc l = .ok (acc * 10 ^ l.length + numV l)
  | [], acc, _, _ => by simp [Lib.parseUintM, numV]
  | c :: l, acc, hd, hb => by
    have hc := hd c (by simp)
    simp only [isDig, Bool.and_eq_true, decide_eq_true_eq] at hc
    have e : acc * 10 ^ (c :: l).length + numV (c :: l) = (acc * 10 + (c.toNat - 48)) * 10 ^ l.length + numV l := by
      rw [show c :: l = [c] ++ l from rfl, numV_append, List.length_append, Nat.pow_add]
      simp only [List.length_singleton, Nat.pow_one, numV, List.foldl_cons, List.foldl_nil, Nat.zero_mul, Nat.zero_add]
      rw [Nat.add_mul, Nat.mul_assoc, Nat.add_assoc]
    rw [e] at hb ⊢
    have hp : 1 ≤ 10 ^ l.length := Nat.one_le_pow _ _ (by decide)
    have h1 : (acc * 10 + (c.toNat - 48)) * 1 ≤ (acc * 10 + (c.toNat - 48)) * 10 ^ l.length := Nat.mul_le_mul_left _ hp
    rw [Lib.parseUintM, if_pos hc, if_neg (by omega), if_neg (by omega)]
    exact uint_chunk l _ (fun c hc => hd c (by simp [hc])) hb
theorem numV_lt : ∀ (l : List UInt8), (∀ c ∈ l, isDig c = true) → numV l < 10 ^ l.length := by
  intro l
  induction hn : l.length generalizing l with
  | zero => intro _; rw [List.eq_nil_of_length_eq_zero hn]; simp [numV]
  | succ n ih =>
    intro hd
    have h0 : l ≠ [] := by intro e; subst e; simp at hn
    obtain ⟨m, c, rfl⟩ : ∃ m c, l = m ++ [c] := ⟨l.dropLast, l.getLast h0, (List.dropLast_concat_getLast h0).symm⟩
    have hc := hd c (by simp)
    simp only [isDig, Bool.and_eq_true, decide_eq_true_eq] at hc
    have := ih m (by simp at hn; exact hn) (fun c hc => hd c (by simp [hc]))
    rw [numV_snoc, Nat.pow_succ]
    omega
theorem uint_ok {l : List UInt8} (h0 : l ≠ []) (hl : l.length ≤ 19) (hd : ∀ c ∈ l, isDig c = true) : Lib.parseUintB 64 l = .ok (numV l) := by
  have h1 := numV_lt l hd
  have h2 : 10 ^ l.length ≤ 10 ^ 19 := Nat.pow_le_pow_right (by omega) hl
  have := uint_chunk l 0 hd (by rw [Nat.zero_mul, Nat.zero_add]; omega)
  rw [Nat.zero_mul, Nat.zero_add] at this
  unfold Lib.parseUintB
  rw [if_neg h0]
  exact this
theorem trim_text (s : ByteArray) (w : World) (hs : s.size ≤ 9223372036854775807) :
    Calls Tryz.prog 110 #[.string s, .string ⟨#[48, 49, 50, 51, 52, 53, 54, 55, 56, 57]⟩] w fun e w' => e = .returned (.string ⟨(Lib.trimS s.data.toList d10).toArray⟩) ∧ Below w.heap.size w w' :=
  Any.strings_Trim_laid Tryz.lays160 (by kernel_rfl) s ⟨#[48, 49, 50, 51, 52, 53, 54, 55, 56, 57]⟩ w hs (by decide) (ascii_of_all (by decide))
theorem parse_no1 (w : World) : Calls Tryz.prog 76 #[.string ⟨#[]⟩] w fun e w' => e = .returned (.tuple #[.slice none 0 0, .bool false]) ∧ w = w' := by
  go_enter Tryz.func76, Tryz.ntmps76
  go_wp2
  go_ret2
  exact ⟨rfl, rfl⟩
theorem parse_no2 (s : ByteArray) (w : World) (h : 2000 < s.size) (hm : s.size ≤ maxLen) : Calls Tryz.prog 76 #[.string s] w fun e w' => e = .returned (.tuple #[.slice none 0 0, .bool false]) ∧ w = w' := by
  unfold maxLen at hm
  have h1 : (2000 : Int) < (s.size : Int) := by omega
  go_enter Tryz.func76, Tryz.ntmps76
  go_wp2
  all_goals
    go_ret2
    exact ⟨rfl, rfl⟩
theorem head_at (s : ByteArray) (h : 0 < s.size) : s.data.toList.head? = some (s[0]'h) := by
  obtain ⟨⟨l⟩⟩ := s
  cases l with
  | nil => exact absurd h (Nat.lt_irrefl 0)
  | cons x l => rfl
theorem data_of {s : ByteArray} {l : List UInt8} (h : s = ⟨l.toArray⟩) : s.size = l.length ∧ s.toList = l ∧ s.data.toList = l := by
  subst h
  exact ⟨by simp [ByteArray.size], by rw [ByteArray.toList_eq], rfl⟩
theorem parse_no3 (s : ByteArray) (w : World) (h : s.size ≤ 2000) (h0 : 1 < s.size) (h48 : s[0] = 48) : Calls Tryz.prog 76 #[.string s] w fun e w' => e = .returned (.tuple #[.slice none 0 0, .bool false]) ∧ w = w' := by
  have h1 : (s.size : Int) ≤ 2000 := by omega
  have h2 : (1 : Int) < (s.size : Int) := by omega
  have h3 : (0 : Int) < (s.size : Int) := by omega
  have h4 : ((s[0].toNat : Int) == 48) = true := by rw [h48]; rfl
  have h5 : s.toList.isEmpty = false := by
    rw [ByteArray.toList_eq, List.isEmpty_eq_false_iff]
    intro e
    have := Lib.size_eq s
    rw [e, List.length_nil] at this
    omega
  have h6 : 0 < s.size := by omega
  clear h48
  go_enter Tryz.func76, Tryz.ntmps76
  go_wp2
  all_goals
    go_ret2
    exact ⟨rfl, rfl⟩
set_option maxRecDepth 100000 in
set_option maxHeartbeats 2000000 in
theorem parse_no4 (s : ByteArray) (w : World) (h : s.size ≤ 2000) (h0 : 0 < s.size) (hd : ¬ ∀ c ∈ s.data.toList, isDig c = true) (hh : s[0] = 48 → s.size ≤ 1) :
    Calls Tryz.prog 76 #[.string s] w fun e w' => e = .returned (.tuple #[.slice none 0 0, .bool false]) ∧ Below w.heap.size w w' := by
  have h1 : decide (2000 < (s.size : Int)) = false := by rw [decide_eq_false_iff_not]; omega
  have h3 : (0 : Int) < (s.size : Int) := by omega
  have h5 : s.toList.isEmpty = false := by
    rw [ByteArray.toList_eq, List.isEmpty_eq_false_iff]
    intro e
    have := Lib.size_eq s
    rw [e, List.length_nil] at this
    omega
  have htr := trim_text s w (by omega)
  have hne : Lib.trimS s.data.toList d10 ≠ [] := fun e => hd ((trim_digs _).1 e)
  obtain ⟨t, ht⟩ : ∃ t : ByteArray, ⟨(Lib.trimS s.data.toList d10).toArray⟩ = t := ⟨_, rfl⟩
  rw [ht] at htr
  have ht1 : t.toList.isEmpty = false := by
    rw [← ht, ByteArray.toList_eq, List.isEmpty_eq_false_iff]
    exact hne
  have ht2 : ¬ t.toList = [] := by
    rw [← ht, ByteArray.toList_eq]
    exact hne
  replace ht := Lib.hid ht
  replace htr := Lib.hid htr
  clear hne hd
  by_cases h48 : s[0] = 48
  · have h4 : ((s[0].toNat : Int) == 48) = true := by rw [h48]; rfl
    have h7 : decide (1 < (s.size : Int)) = false := by rw [decide_eq_false_iff_not]; have := hh h48; omega
    clear hh h48 h
    go_enter Tryz.func76, Tryz.ntmps76
    go_wp2_with fail
    refine htr.out.mono ?_
    rintro e w1 ⟨rfl, hb⟩
    go_wp2
    go_ret2
    exact ⟨rfl, hb⟩
  · have h4 : ((s[0].toNat : Int) == 48) = false := by
      rw [beq_eq_false_iff_ne]
      intro e
      exact h48 (UInt8.toNat_inj.1 (show s[0].toNat = 48 by omega))
    clear hh h48 h
    go_enter Tryz.func76, Tryz.ntmps76
    go_wp2_with fail
    refine htr.out.mono ?_
    rintro e w1 ⟨rfl, hb⟩
    go_wp2
    go_ret2
    exact ⟨rfl, hb⟩
set_option maxRecDepth 100000 in
set_option maxHeartbeats 4000000 in
theorem parse_yes (s : ByteArray) (l : List UInt8) (hs : s = ⟨l.toArray⟩) (hk : POk l) (w : World) :
    Calls Tryz.prog 76 #[.string s] w fun e w' => (∃ A c zs, e = .returned (.tuple #[.slice A (zs : List Nat).length c, .bool true]) ∧ GotW w' w.heap.size A c zs ∧ Nrm zs (numV l)) ∧ Below w.heap.size w w' := by
  obtain ⟨hz, htl, hdl⟩ := data_of hs
  have hl0 : 0 < l.length := List.length_pos_iff.2 hk.ne
  have hl2 := hk.len
  have h0 : 0 < s.size := by omega
  have h1 : decide (2000 < (s.size : Int)) = false := by rw [decide_eq_false_iff_not]; omega
  have h3 : (0 : Int) < (s.size : Int) := by omega
  have h5 : s.toList.isEmpty = false := by rw [htl, List.isEmpty_eq_false_iff]; exact hk.ne
  have htr := trim_text s w (by omega)
  rw [hdl, (trim_digs l).2 hk.dig] at htr
  replace htr := Lib.hid htr
  have hh := head_at s h0
  rw [hdl] at hh
  obtain ⟨hb48, hdec⟩ : ∃ b48 : Bool, ((s[0].toNat : Int) == 48) = b48 := ⟨_, rfl⟩
  have hsm : hb48 = true → decide (1 < (s.size : Int)) = false := by
    intro e
    rw [e] at hdec
    have : s[0] = 48 := UInt8.toNat_inj.1 (by have := eq_of_beq hdec; show s[0].toNat = 48; omega)
    rw [this] at hh
    have := hk.head hh
    rw [decide_eq_false_iff_not]
    omega
  replace hs := Lib.hid hs
  replace hz := Lib.hid hz
  replace htl := Lib.hid htl
  replace hdl := Lib.hid hdl
  replace hh := Lib.hid hh
  cases hb48 with
  | true =>
    have h7 := hsm rfl
    clear hsm
    go_enter Tryz.func76, Tryz.ntmps76
    go_wp2_with fail
    refine htr.out.mono ?_
    rintro e w1 ⟨rfl, hb⟩
    go_wp2
    go_loopg [0, 4] l.length (fun k sv ov wr => ∃ (i : Nat) (t : ByteArray) (A : Option Addr) (c : Nat) (zs : List Nat), sv = .string t ∧ t = ⟨(l.drop i).toArray⟩ ∧ i + k = l.length ∧ (i = 0 ∨ k % 19 = 0) ∧ ov = .slice A zs.length c ∧ GotW wr w.heap.size A c zs ∧ Nrm zs (numV (l.take i)) ∧ Below w.heap.size w wr)
    case atStart => exact ⟨0, s, none, 0, [], rfl, by rw [List.drop_zero]; exact hs.out, by omega, .inl rfl, rfl, .nil _ _, by rw [List.take_zero]; exact .zero, hb⟩
    case round =>
      clear hb h1 h3 h5 htr hz htl hdl
      obtain ⟨i, t, A, c, zs, rfl, ht, hik, hmod, rfl, gz, nz, hbw⟩ := hrel
      have hzw := hbw.size
      obtain ⟨htz, _, htd⟩ := data_of ht
      rw [List.length_drop, show l.length - i = gk by omega] at htz
      have hdi : ∀ c ∈ l.take i, isDig c = true := fun c hc => hk.dig c (List.mem_of_mem_take hc)
      have hzl : zs.length ≤ 2000 := by
        have h1 := numV_lt _ hdi
        have h2 : 10 ^ (l.take i).length ≤ 18446744073709551616 ^ (l.take i).length := Nat.pow_le_pow_left (by omega) _
        have h3 := nz.length_le (Nat.lt_of_lt_of_le h1 h2)
        rw [List.length_take] at h3
        omega
      replace ht := Lib.hid ht
      replace htd := Lib.hid htd
      by_cases hk0 : gk = 0
      · subst hk0
        have hall := List.take_of_length_le (l := l) (i := i) (by omega)
        rw [hall] at nz
        clear hall
        go_wp2
        go_ret2
        exact ⟨⟨A, c, zs, rfl, gz, nz⟩, hbw⟩
      · obtain ⟨m, hm⟩ : ∃ m, (gk - 1) % 19 = m := ⟨_, rfl⟩
        have hm' : ((gk : Int) - 1) % 19 = (m : Int) := by omega
        have hm1 : m < 19 := by omega
        have hm2 : m + 1 ≤ gk := by omega
        have hg1 : 1 ≤ (gk : Int) := by omega
        have hg2 : (gk : Int) ≤ 2000 := by omega
        have hm3 : (m : Int) + 1 ≤ (gk : Int) := by omega
        have htk : (t.extract 0 (m + 1)).data.toList = (l.drop i).take (m + 1) := by rw [ByteArray.data_extract, Array.toList_extract, htd.out]; simp
        have htr2 : t.extract (m + 1) gk = ⟨(l.drop (i + (m + 1))).toArray⟩ := by
          apply ByteArray.ext
          apply Array.toList_inj.1
          rw [ByteArray.data_extract, Array.toList_extract, htd.out]
          simp only [List.extract_eq_take_drop, List.drop_drop]
          rw [List.take_of_length_le (by rw [List.length_drop]; omega)]
        have hcd : ∀ c ∈ (l.drop i).take (m + 1), isDig c = true := fun c hc => hk.dig c (List.mem_of_mem_drop (List.mem_of_mem_take hc))
        have hcl : ((l.drop i).take (m + 1)).length = m + 1 := by rw [List.length_take, List.length_drop]; omega
        have hu := uint_ok (l := (l.drop i).take (m + 1)) (by intro e; rw [e] at hcl; simp at hcl) (by omega) hcd
        rw [← htk] at hu
        have hxb : numV ((l.drop i).take (m + 1)) < 10000000000000000000 := by
          have h1 := numV_lt _ hcd
          have h2 : 10 ^ ((l.drop i).take (m + 1)).length ≤ 10 ^ 19 := Nat.pow_le_pow_right (by omega) (by omega)
          omega
        have hval : numV (l.take i) * 10000000000000000000 + numV ((l.drop i).take (m + 1)) = numV (l.take (i + (m + 1))) := by
          rw [show l.take (i + (m + 1)) = l.take i ++ (l.drop i).take (m + 1) from List.take_add, numV_append, hcl]
          rcases hmod with rfl | h19
          · simp [numV]
          · rw [show m + 1 = 19 by omega]
        have hmod' : (gk - (m + 1)) % 19 = 0 := by omega
        have hpu := Tryz.strconv_ParseUint_10_at64_ok (t.extract 0 (m + 1)) (by rw [Lib.size_eq, htk, hcl]; omega) _ hu wr
        rw [htk] at hpu
        generalize numV ((l.drop i).take (m + 1)) = x at *
        replace hm := Lib.hid hm
        replace htk := Lib.hid htk
        replace htr2 := Lib.hid htr2
        replace hcl := Lib.hid hcl
        replace hxb := Lib.hid hxb
        replace hval := Lib.hid hval
        replace hmod' := Lib.hid hmod'
        replace hpu := Lib.hid hpu
        clear hu hcd hdi hmod
        go_wp2_with fail
        refine hpu.out.mono ?_
        rintro e w2 ⟨rfl, hw2⟩
        have hb2 : Below wr.heap.size wr w2 := by
          rcases hw2 with rfl | rfl
          · exact .refl _ _
          · exact Go.Joins.below_bytesWorld _ wr _ _ (Nat.le_refl _)
        clear hw2
        have hz2 := hb2.size
        have gz2 := gz.below hb2
        go_wp2_with fail
        refine (of_any 10000000000000000000 (by omega) w2).mono ?_
        rintro e w3 ⟨A3, c3, z3, rfl, g3, n3, hb3⟩
        have hz3 := hb3.size
        have gz3 := gz2.below hb3
        have hl3 : z3.length ≤ 1 := n3.length_le (by omega)
        go_wp2_with fail
        refine (mul_any c c3 w3 gz3.rd g3.rd (by omega) (by omega) nz.dig n3.dig).mono ?_
        rintro e w4 ⟨A4, c4, z4, rfl, g4, n4, hb4⟩
        rw [nz.val, n3.val] at n4
        have hz4 := hb4.size
        have hl4 : z4.length ≤ zs.length + 1 := by
          refine n4.length_le ?_
          have h1 := vl_lt nz.dig
          rw [nz.val] at h1
          rw [Nat.pow_succ]
          exact Nat.lt_of_lt_of_le (Nat.mul_lt_mul_of_pos_right h1 (by omega)) (Nat.mul_le_mul_left _ (by omega))
        go_wp2_with fail
        refine (of_any x (by have := hxb.out; omega) w4).mono ?_
        rintro e w5 ⟨A5, c5, z5, rfl, g5, n5, hb5⟩
        have hz5 := hb5.size
        have hl5 : z5.length ≤ 1 := n5.length_le (by have := hxb.out; omega)
        have g4' := g4.below hb5
        go_wp2_with fail
        refine (add_any c4 c5 w5 g4'.rd g5.rd (by omega) (by omega) n4.dig n5.dig).mono ?_
        rintro e w6 ⟨A6, c6, z6, rfl, g6, n6, hb6⟩
        rw [n4.val, n5.val, hval.out] at n6
        go_wp2
        go_roundg (gk - (m + 1))
        case measure => omega
        case rel => exact ⟨i + (m + 1), _, A6, c6, z6, rfl, htr2.out, by omega, .inr hmod'.out, rfl, gotW_base (gotU_toW g6) (by omega), n6, chain (chain (chain (chain (chain hbw hb2) hb3) hb4) hb5) hb6⟩
  | false =>
    clear hsm
    go_enter Tryz.func76, Tryz.ntmps76
    go_wp2_with fail
    refine htr.out.mono ?_
    rintro e w1 ⟨rfl, hb⟩
    go_wp2
    go_loopg [0, 4] l.length (fun k sv ov wr => ∃ (i : Nat) (t : ByteArray) (A : Option Addr) (c : Nat) (zs : List Nat), sv = .string t ∧ t = ⟨(l.drop i).toArray⟩ ∧ i + k = l.length ∧ (i = 0 ∨ k % 19 = 0) ∧ ov = .slice A zs.length c ∧ GotW wr w.heap.size A c zs ∧ Nrm zs (numV (l.take i)) ∧ Below w.heap.size w wr)
    case atStart => exact ⟨0, s, none, 0, [], rfl, by rw [List.drop_zero]; exact hs.out, by omega, .inl rfl, rfl, .nil _ _, by rw [List.take_zero]; exact .zero, hb⟩
    case round =>
      clear hb h1 h3 h5 htr hz htl hdl
      obtain ⟨i, t, A, c, zs, rfl, ht, hik, hmod, rfl, gz, nz, hbw⟩ := hrel
      have hzw := hbw.size
      obtain ⟨htz, _, htd⟩ := data_of ht
      rw [List.length_drop, show l.length - i = gk by omega] at htz
      have hdi : ∀ c ∈ l.take i, isDig c = true := fun c hc => hk.dig c (List.mem_of_mem_take hc)
      have hzl : zs.length ≤ 2000 := by
        have h1 := numV_lt _ hdi
        have h2 : 10 ^ (l.take i).length ≤ 18446744073709551616 ^ (l.take i).length := Nat.pow_le_pow_left (by omega) _
        have h3 := nz.length_le (Nat.lt_of_lt_of_le h1 h2)
        rw [List.length_take] at h3
        omega
      replace ht := Lib.hid ht
      replace htd := Lib.hid htd
      by_cases hk0 : gk = 0
      · subst hk0
        have hall := List.take_of_length_le (l := l) (i := i) (by omega)
        rw [hall] at nz
        clear hall
        go_wp2
        go_ret2
        exact ⟨⟨A, c, zs, rfl, gz, nz⟩, hbw⟩
      · obtain ⟨m, hm⟩ : ∃ m, (gk - 1) % 19 = m := ⟨_, rfl⟩
        have hm' : ((gk : Int) - 1) % 19 = (m : Int) := by omega
        have hm1 : m < 19 := by omega
        have hm2 : m + 1 ≤ gk := by omega
        have hg1 : 1 ≤ (gk : Int) := by omega
        have hg2 : (gk : Int) ≤ 2000 := by omega
        have hm3 : (m : Int) + 1 ≤ (gk : Int) := by omega
        have htk : (t.extract 0 (m + 1)).data.toList = (l.drop i).take (m + 1) := by rw [ByteArray.data_extract, Array.toList_extract, htd.out]; simp
        have htr2 : t.extract (m + 1) gk = ⟨(l.drop (i + (m + 1))).toArray⟩ := by
          apply ByteArray.ext
          apply Array.toList_inj.1
          rw [ByteArray.data_extract, Array.toList_extract, htd.out]
          simp only [List.extract_eq_take_drop, List.drop_drop]
          rw [List.take_of_length_le (by rw [List.length_drop]; omega)]
        have hcd : ∀ c ∈ (l.drop i).take (m + 1), isDig c = true := fun c hc => hk.dig c (List.mem_of_mem_drop (List.mem_of_mem_take hc))
        have hcl : ((l.drop i).take (m + 1)).length = m + 1 := by rw [List.length_take, List.length_drop]; omega
        have hu := uint_ok (l := (l.drop i).take (m + 1)) (by intro e; rw [e] at hcl; simp at hcl) (by omega) hcd
        rw [← htk] at hu
        have hxb : numV ((l.drop i).take (m + 1)) < 10000000000000000000 := by
          have h1 := numV_lt _ hcd
          have h2 : 10 ^ ((l.drop i).take (m + 1)).length ≤ 10 ^ 19 := Nat.pow_le_pow_right (by omega) (by omega)
          omega
        have hval : numV (l.take i) * 10000000000000000000 + numV ((l.drop i).take (m + 1)) = numV (l.take (i + (m + 1))) := by
          rw [show l.take (i + (m + 1)) = l.take i ++ (l.drop i).take (m + 1) from List.take_add, numV_append, hcl]
          rcases hmod with rfl | h19
          · simp [numV]
          · rw [show m + 1 = 19 by omega]
        have hmod' : (gk - (m + 1)) % 19 = 0 := by omega
        have hpu := Tryz.strconv_ParseUint_10_at64_ok (t.extract 0 (m + 1)) (by rw [Lib.size_eq, htk, hcl]; omega) _ hu wr
        rw [htk] at hpu
        generalize numV ((l.drop i).take (m + 1)) = x at *
        replace hm := Lib.hid hm
        replace htk := Lib.hid htk
        replace htr2 := Lib.hid htr2
        replace hcl := Lib.hid hcl
        replace hxb := Lib.hid hxb
        replace hval := Lib.hid hval
        replace hmod' := Lib.hid hmod'
        replace hpu := Lib.hid hpu
        clear hu hcd hdi hmod
        go_wp2_with fail
        refine hpu.out.mono ?_
        rintro e w2 ⟨rfl, hw2⟩
        have hb2 : Below wr.heap.size wr w2 := by
          rcases hw2 with rfl | rfl
          · exact .refl _ _
          · exact Go.Joins.below_bytesWorld _ wr _ _ (Nat.le_refl _)
        clear hw2
        have hz2 := hb2.size
        have gz2 := gz.below hb2
        go_wp2_with fail
        refine (of_any 10000000000000000000 (by omega) w2).mono ?_
        rintro e w3 ⟨A3, c3, z3, rfl, g3, n3, hb3⟩
        have hz3 := hb3.size
        have gz3 := gz2.below hb3
        have hl3 : z3.length ≤ 1 := n3.length_le (by omega)
        go_wp2_with fail
        refine (mul_any c c3 w3 gz3.rd g3.rd (by omega) (by omega) nz.dig n3.dig).mono ?_
        rintro e w4 ⟨A4, c4, z4, rfl, g4, n4, hb4⟩
        rw [nz.val, n3.val] at n4
        have hz4 := hb4.size
        have hl4 : z4.length ≤ zs.length + 1 := by
          refine n4.length_le ?_
          have h1 := vl_lt nz.dig
          rw [nz.val] at h1
          rw [Nat.pow_succ]
          exact Nat.lt_of_lt_of_le (Nat.mul_lt_mul_of_pos_right h1 (by omega)) (Nat.mul_le_mul_left _ (by omega))
        go_wp2_with fail
        refine (of_any x (by have := hxb.out; omega) w4).mono ?_
        rintro e w5 ⟨A5, c5, z5, rfl, g5, n5, hb5⟩
        have hz5 := hb5.size
        have hl5 : z5.length ≤ 1 := n5.length_le (by have := hxb.out; omega)
        have g4' := g4.below hb5
        go_wp2_with fail
        refine (add_any c4 c5 w5 g4'.rd g5.rd (by omega) (by omega) n4.dig n5.dig).mono ?_
        rintro e w6 ⟨A6, c6, z6, rfl, g6, n6, hb6⟩
        rw [n4.val, n5.val, hval.out] at n6
        go_wp2
        go_roundg (gk - (m + 1))
        case measure => omega
        case rel => exact ⟨i + (m + 1), _, A6, c6, z6, rfl, htr2.out, by omega, .inr hmod'.out, rfl, gotW_base (gotU_toW g6) (by omega), n6, chain (chain (chain (chain (chain hbw hb2) hb3) hb4) hb5) hb6⟩
theorem str_of (s : ByteArray) : s = ⟨s.data.toList.toArray⟩ := by cases s; simp
/-- Parse, of a text that is none of a number. -/
theorem parse_no (s : ByteArray) (w : World) (hm : s.size ≤ maxLen) (h : ¬ POk s.data.toList) :
    Calls Tryz.prog 76 #[.string s] w fun e w' => e = .returned (.tuple #[.slice none 0 0, .bool false]) ∧ Below w.heap.size w w' := by
  have hz := Lib.size_eq s
  rcases Nat.eq_zero_or_pos s.size with h0 | h0
  · have e : s = ⟨#[]⟩ := by
      have e0 : s.data.toList = [] := List.eq_nil_of_length_eq_zero (by omega)
      rw [str_of s, e0]
    subst e
    exact (parse_no1 w).mono fun e w' ⟨h1, h2⟩ => ⟨h1, h2 ▸ .refl _ _⟩
  · rcases Nat.lt_or_ge 2000 s.size with h1 | h1
    · exact (parse_no2 s w h1 hm).mono fun e w' ⟨h1, h2⟩ => ⟨h1, h2 ▸ .refl _ _⟩
    · by_cases h48 : s[0] = 48 ∧ 1 < s.size
      · exact (parse_no3 s w h1 h48.2 h48.1).mono fun e w' ⟨h1, h2⟩ => ⟨h1, h2 ▸ .refl _ _⟩
      · refine parse_no4 s w h1 h0 (fun hd => h ⟨fun e => ?_, by omega, fun e => ?_, hd⟩) (fun e => ?_)
        · rw [e, List.length_nil] at hz; omega
        · rw [head_at s h0] at e
          have := Option.some.inj e
          rcases Nat.lt_or_ge 1 s.size with h2 | h2
          · exact absurd ⟨this, h2⟩ h48
          · omega
        · rcases Nat.lt_or_ge 1 s.size with h2 | h2
          · exact absurd ⟨e, h2⟩ h48
          · exact h2
/-- What Parse tells. -/
theorem parse_any (s : ByteArray) (w : World) (h : POk s.data.toList) :
    Calls Tryz.prog 76 #[.string s] w fun e w' => (∃ A c zs, e = .returned (.tuple #[.slice A (zs : List Nat).length c, .bool true]) ∧ GotW w' w.heap.size A c zs ∧ Nrm zs (numV s.data.toList)) ∧ Below w.heap.size w w' :=
  parse_yes s _ (str_of s) h w
end Go.Proofs.YtdlkfnkmdlcekaaGreatDoor
namespace Go.Proofs.YtdlkfnkmdlcekaaGreatDoor
open Go.RowKit Go.Cal
/-- The value reads as the number N, of k words at most. -/
def IsN (w : World) (v : Value) (k N : Nat) : Prop :=
  ∃ A c zs, v = .slice A (zs : List Nat).length c ∧ RdU w w.heap.size A zs ∧ zs.length ≤ c ∧ zs.length ≤ k ∧ Dig 18446744073709551616 zs ∧ vl 18446744073709551616 zs = N
theorem IsN.below {w w' : World} {v : Value} {k N : Nat} (h : IsN w v k N) (hb : Below w.heap.size w w') : IsN w' v k N := by
  obtain ⟨A, c, zs, h1, h2, h3⟩ := h
  exact ⟨A, c, zs, h1, (h2.below hb).more hb.size, h3⟩
theorem IsN.drawn {w w' : World} {v : Value} {k N : Nat} (h : IsN w v k N) (hd : Drawn w w') : IsN w' v k N := h.below (hd.below _)
theorem IsN.lt {w : World} {v : Value} {k N : Nat} (h : IsN w v k N) : N < 18446744073709551616 ^ k := by
  obtain ⟨A, c, zs, h1, h2, h3, h4, h5, h6⟩ := h
  have h7 := vl_lt h5
  have h8 : 18446744073709551616 ^ zs.length ≤ 18446744073709551616 ^ k := Nat.pow_le_pow_right (by omega) h4
  omega
theorem IsN.nil (w : World) : IsN w (.slice none 0 0) 0 0 := ⟨none, 0, [], rfl, .nil, Nat.le_refl _, Nat.le_refl _, fun x hx => by simp at hx, rfl⟩
theorem IsN.ofW {w : World} {base k N : Nat} {A : Option Addr} {c : Nat} {zs : List Nat} (g : GotW w base A c zs) (n : Nrm zs N) (hk : N < 18446744073709551616 ^ k) : IsN w (.slice A zs.length c) k N :=
  ⟨A, c, zs, rfl, g.rd, g.cap, n.length_le hk, n.dig, n.val⟩
theorem IsN.more {w : World} {v : Value} {k k' N : Nat} (h : IsN w v k N) (hk : k ≤ k') : IsN w v k' N := by
  obtain ⟨A, c, zs, h1, h2, h3, h4, h5⟩ := h
  exact ⟨A, c, zs, h1, h2, h3, by omega, h5⟩
/-- Below B nothing has turned; the values of the list are live. -/
structure Live (B w : World) (l : List (Value × Nat × Nat)) : Prop where
  below : Below B.heap.size B w
  all : ∀ p ∈ l, IsN w p.1 p.2.1 p.2.2
section
variable {B w : World} {l : List (Value × Nat × Nat)}
theorem Live.size (h : Live B w l) : B.heap.size ≤ w.heap.size := h.below.size
theorem Live.start (w : World) : Live w w [] := ⟨.refl _ _, fun p hp => by simp at hp⟩
theorem Live.get (h : Live B w l) {v : Value} {k N : Nat} (hm : (v, k, N) ∈ l) : IsN w v k N := h.all _ hm
theorem Live.go {w' : World} (h : Live B w l) (hb : Below w.heap.size w w') : Live B w' l := ⟨h.below.trans (hb.mono h.size), fun p hp => (h.all p hp).below hb⟩
theorem Live.put {v : Value} {k N : Nat} (h : Live B w l) (hv : IsN w v k N) : Live B w ((v, k, N) :: l) := ⟨h.below, fun p hp => by
  rcases List.mem_cons.1 hp with rfl | hp
  · exact hv
  · exact h.all p hp⟩
theorem Live.keep {l' : List (Value × Nat × Nat)} (h : Live B w l) (hs : ∀ p ∈ l', p ∈ l) : Live B w l' := ⟨h.below, fun p hp => h.all p (hs p hp)⟩
theorem Live.tab (h : Live B w l) (hT : Tab10 B) : Tab10 w := hT.below h.below
variable {v1 v2 : Value} {k1 k2 X Y : Nat}
theorem even_l (h : Live B w l) (m1 : (v1, k1, X) ∈ l) :
    Calls Tryz.prog 133 #[v1] w fun e w' => e = .returned (.bool (!X.testBit 0)) ∧ w = w' := by
  obtain ⟨A1, c1, z1, rfl, r1, hc1, hl1, d1, rfl⟩ := h.get m1
  exact even_any c1 w r1 d1
end
/-- A slice that the text itself lays. -/
theorem IsN.lit (w : World) (L : List Nat) (cs : Array Value) (hcs : cs = (lU L).toArray) (hd : Dig 18446744073709551616 L) : IsN (w.alloc (.cells cs 22)) (.slice (some ⟨w.heap.size, 0, none⟩) L.length L.length) L.length (vl 18446744073709551616 L) := by
  have hrd := ((BlkU.lit w 22 L cs hcs).rd 0 L.length (by omega)).more (B' := (w.alloc (.cells cs 22)).heap.size) (by simp)
  simp only [List.drop_zero, List.take_length] at hrd
  exact ⟨_, _, L, rfl, hrd, Nat.le_refl _, Nat.le_refl _, hd, rfl⟩
theorem Live.lit {B w : World} {l : List (Value × Nat × Nat)} (h : Live B w l) (L : List Nat) (cs : Array Value) (k N : Nat) (hcs : cs = (lU L).toArray) (hd : L.all (· < 18446744073709551616) = true) (hk : L.length = k) (hv : vl 18446744073709551616 L = N) :
    Live B (w.alloc (.cells cs 22)) ((.slice (some ⟨w.heap.size, 0, none⟩) k k, k, N) :: l) := by
  subst hk; subst hv
  exact (h.go ((Below.refl _ _).alloc (Nat.le_refl _) _)).put (.lit w L cs hcs fun x hx => by simpa using List.all_eq_true.1 hd x hx)
def pOkB (l : List UInt8) : Bool := !l.isEmpty && decide (l.length ≤ 2000) && (!(l.head? == some 48) || decide (l.length ≤ 1)) && l.all isDig
theorem pOk_iff (l : List UInt8) : POk l ↔ pOkB l = true := by
  unfold pOkB
  constructor
  · rintro ⟨h1, h2, h3, h4⟩
    have h5 : l.all isDig = true := List.all_eq_true.2 h4
    simp only [h5, Bool.and_true, decide_eq_true h2, Bool.and_eq_true, Bool.or_eq_true, decide_eq_true_eq, Bool.not_eq_true']
    refine ⟨by simpa using h1, ?_⟩
    by_cases e : l.head? = some 48
    · exact .inr (h3 e)
    · exact .inl (by simpa using e)
  · intro h
    simp only [Bool.and_eq_true, Bool.or_eq_true, decide_eq_true_eq, Bool.not_eq_true'] at h
    obtain ⟨⟨⟨h1, h2⟩, h3⟩, h4⟩ := h
    refine ⟨by simpa using h1, h2, fun e => ?_, fun c hc => List.all_eq_true.1 h4 c hc⟩
    rcases h3 with h3 | h3
    · rw [e] at h3; simp at h3
    · exact h3
section
variable {B w : World} {l : List (Value × Nat × Nat)} {v1 v2 : Value} {k1 k2 X Y : Nat}
theorem Live.nil (h : Live B w l) : Live B w ((.slice none 0 0, 0, 0) :: l) := h.put (.nil w)
end
end Go.Proofs.YtdlkfnkmdlcekaaGreatDoor
namespace Go.Proofs.YtdlkfnkmdlcekaaGreatDoor
open Go.ChangeShapes Go.WideShapes Go.ChangeAt Go.RowKit Go.Cal
theorem own : ownKnob Tryz.prog.godebug = none := by kernel_rfl
theorem laidVars_mem {P : Program} {w : World} : ∀ {laid : List (String × DataW Unit)} {ps : List MemPlace}, DataW.LaidVars P w laid ps → ∀ {n : String} {d : DataW Unit}, (n, d) ∈ laid →
    ∃ g t cs fuel p, P.globalNamed n = some g ∧ (P.globals[g]?).map (·.type) = some t ∧ w.var? P n = some cs ∧ DataW.trod (fun _ => ()) P w 0 (fun _ => true) false fuel t cs.toList = some (d, p)
  | [], _, _, _, _, h => by simp at h
  | (n', d') :: r, ps, h, n, d, hm => by
    obtain ⟨g, t, cs, fuel, p, q, h1, h2, h3, h4, h5, _⟩ := h
    rcases List.mem_cons.1 hm with e | hm
    · injection e with e1 e2
      subst e1; subst e2
      exact ⟨g, t, cs, fuel, p, h1, h2, h3, h4⟩
    · exact laidVars_mem h5 hm
theorem tab10_of_laid {W : World} {laid : List (String × DataW Unit)} (h : laidMet Tryz.prog laid W) (hm : ("internal/strconv.uint64pow10", Rows.laid_internal_strconv_uint64pow10) ∈ laid) : Tab10 W := by
  obtain ⟨ps, hl, _⟩ := h
  obtain ⟨g, t, cs, fuel, p, h1, h2, h3, h4⟩ := laidVars_mem hl hm
  obtain rfl := Option.some.inj ((show Tryz.prog.globalNamed "internal/strconv.uint64pow10" = some 5 by kernel_rfl).symm.trans h1)
  obtain rfl := Option.some.inj ((show (Tryz.prog.globals[5]?).map (·.type) = some 203 by kernel_rfl).symm.trans h2)
  have h5 := Lib.cells_of_tab (k := .u64) (zs := Lib.pow10Tab) Tryz.underlying203 Tryz.underlying22 (by kernel_rfl) (by kernel_rfl) h4
  unfold Tab10 Lib.TabIs
  rw [h3, ← h5]
end Go.Proofs.YtdlkfnkmdlcekaaGreatDoor
