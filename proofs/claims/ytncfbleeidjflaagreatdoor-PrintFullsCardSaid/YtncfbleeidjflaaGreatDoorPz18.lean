/- The nat layer: Text. Conditions: lengths below 2^32; the table of powers reads as it is laid. -/
import Derived.Test.YtncfbleeidjflaaGreatDoorPz16
import Derived.Test.YtncfbleeidjflaaGreatDoorPz04
import Derived.Lib.EndianMore
import Derived.Deep.LoopGhost
import Derived.RangeFuncBox
namespace Go.Proofs.YtncfbleeidjflaaGreatDoor
open Go.RowKit Go.Cal
theorem info_str : (Tryz.prog.info? 9).map (fun i => (i.zero, i.size, i.bytes)) = some (some (.string ⟨#[]⟩), 1, 16) := by kernel_rfl
theorem under_strs : Tryz.prog.underlying 151 = some (.slice 9) := by kernel_rfl
theorem grown_of_below {w w' : World} {row : Option Nat} (h : Below w.heap.size w w') : w.grownBy w' row := ⟨h.os, h.tape, h.output, h.size, fun j hj _ => h.block j hj⟩
theorem own_below {w w' : World} {base : Nat} {e : TypeId} {size : Nat} {v : Value} {n : Nat} {xs : List Value} (h : w.ownsRow base e size v n xs) (hb : Below w.heap.size w w') : w'.ownsRow base e size v n xs :=
  h.kept (grown_of_below (row := none) hb) (by cases hv : v.ownBlock <;> simp)
theorem gotU_grown {w w' : World} {base : Nat} {A : Option Addr} {c : Nat} {zs : List Nat} {row : Option Nat} (h : GotU w base A c zs) (hg : w.grownBy w' row) (hr : ∀ j, row = some j → j < base) : GotU w' base A c zs := by
  rcases h.own with rfl | ⟨b, off, rfl, hb, hf⟩
  · exact ⟨.nil, h.cap, h.small, .inl rfl, h.full⟩
  · rcases h.rd.place with rfl | ⟨b', off', e, hlt⟩
    · exact ⟨.nil, h.cap, h.small, .inl rfl, h.full⟩
    · injection e with e
      injection e with e1 e2
      subst e1; subst e2
      have hblk := hg.block b hlt (fun e => by have := hr b e.symm; omega)
      refine ⟨⟨.inr ⟨b, off, rfl, Nat.lt_of_lt_of_le hlt hg.size⟩, fun b' off' e i hi => ?_⟩, h.cap, h.small, .inr ⟨b, off, rfl, hb, fun i hi => ?_⟩, h.full⟩
      · injection e with e
        injection e with e1 e2
        subst e1; subst e2
        rw [World.cell?_of_block hblk]
        exact h.rd.cells b off rfl i hi
      · have := hf i hi
        simp only [World.frozen?] at this ⊢
        rw [hblk]
        exact this
theorem gotU_alloc {w : World} {base : Nat} {A : Option Addr} {c : Nat} {zs : List Nat} (h : GotU w base A c zs) (o : Obj) : GotU (w.alloc o) base A c zs := h.below ((Below.refl _ _).alloc (Nat.le_refl _) o)
theorem str_cat (a b : List UInt8) : (⟨a.toArray⟩ : ByteArray) ++ ⟨b.toArray⟩ = ⟨(a ++ b).toArray⟩ := by
  apply ByteArray.ext
  simp
/-- Strings as cells. -/
def sV (ps : List (List UInt8)) : List Value := ps.map fun p => Value.string ⟨p.toArray⟩
theorem sV_snoc (ps : List (List UInt8)) (p : List UInt8) : sV ps ++ [.string ⟨p.toArray⟩] = sV (ps ++ [p]) := by simp [sV]
/-- At the head of a round: what is left of the number, and the chunks so far, the lowest first. -/
structure TextRel (N N' : Nat) (ps : List (List UInt8)) : Prop where
  txt : Lib.decDigits N = Lib.decDigits N' ++ ps.reverse.flatten
  cnt : N' * 2 ^ ps.length ≤ N
  pos : ps = [] ∨ 1 ≤ N'
theorem TextRel.start (N : Nat) : TextRel N N [] := ⟨by simp, by simp, .inl rfl⟩
theorem TextRel.step {N N' : Nat} {ps : List (List UInt8)} (h : TextRel N N' ps) (hN : 10000000000000000000 ≤ N') :
    TextRel N (N' / 10000000000000000000) (ps ++ [List.replicate (19 - (Lib.decDigits (N' % 10000000000000000000)).length) 48 ++ Lib.decDigits (N' % 10000000000000000000)]) := by
  have hq : 1 ≤ N' / 10000000000000000000 := by omega
  refine ⟨?_, ?_, .inr hq⟩
  · have e := dec_chunk (q := N' / 10000000000000000000) (r := N' % 10000000000000000000) (k := 19) hq (by omega) (Nat.mod_lt _ (by omega))
    have e2 : N' / 10000000000000000000 * 10 ^ 19 + N' % 10000000000000000000 = N' := by rw [show 10 ^ 19 = 10000000000000000000 from rfl]; omega
    rw [e2] at e
    rw [h.txt, e]
    simp
  · have h1 := h.cnt
    have h2 : N' / 10000000000000000000 * 2 ≤ N' := by omega
    simp only [List.length_append, List.length_singleton, Nat.pow_succ]
    have h3 := Nat.mul_le_mul_right (2 ^ ps.length) h2
    rw [Nat.mul_assoc, Nat.mul_comm 2] at h3
    omega
theorem TextRel.few {N N' k : Nat} {ps : List (List UInt8)} (h : TextRel N N' ps) (hN : N < 2 ^ k) : ps.length ≤ k := by
  rcases h.pos with rfl | h1
  · simp
  · rcases Nat.lt_or_ge k ps.length with hlt | hge
    · exfalso
      have h2 := h.cnt
      have h3 : 2 ^ k ≤ 2 ^ ps.length := Nat.pow_le_pow_right (by omega) (by omega)
      have h4 : 1 * 2 ^ ps.length ≤ N' * 2 ^ ps.length := Nat.mul_le_mul_right _ h1
      omega
    · exact hge
/-- The test of the loop. -/
theorem nrm_great {zs : List Nat} {N : Nat} (h : Nrm zs N) : (1 < zs.length → 10000000000000000000 ≤ N) ∧ (¬ 1 < zs.length → zs.getD 0 0 = N) := by
  refine ⟨fun hl => ?_, fun hl => ?_⟩
  · have h1 := vl_pos (b := 18446744073709551616) h.top (by intro e; subst e; simp at hl)
    rw [h.val] at h1
    have h2 : 18446744073709551616 ^ 1 ≤ 18446744073709551616 ^ (zs.length - 1) := Nat.pow_le_pow_right (by omega) (by omega)
    omega
  · have hv := h.val
    match zs, hl with
    | [], _ => simpa [vl] using hv
    | [x], _ => simpa [vl] using hv
    | x :: y :: l, hl => simp at hl
def sX (L : List (List UInt8)) (i : Nat) : ByteArray := ⟨(L.getD i []).toArray⟩
theorem strsOf_sX (L : List (List UInt8)) : Lib.strsOf (sX L) L.length = L := by
  apply List.ext_getElem
  · simp [Lib.strsOf]
  · intro i h1 h2
    simp [Lib.strsOf, sX, List.getD_eq_getElem?_getD, h2]
theorem sV_cell {w : World} {B g n cap : Nat} {L : List (List UInt8)} (h : w.ownsRow B 9 1 (.slice (some ⟨g, 0, none⟩) n cap) n (sV L)) (hn : n = L.length) (i : Nat) (hi : i < n) : w.cell? ⟨g, 0 + i, none⟩ = some (.string (sX L i)) := by
  subst hn
  rw [Nat.zero_add, h.cellAt i (by omega)]
  simp [sV, sX, List.getD_eq_getElem?_getD, hi]
theorem rev_cell {w : World} {B g n cap q : Nat} {L : List (List UInt8)} (h : w.ownsRow B 9 1 (.slice (some ⟨g, 0, none⟩) n cap) n (sV L)) (hn : n = L.length) (j : Nat) (x : ByteArray) (hj : (L.reverse.map fun l => (⟨l.toArray⟩ : ByteArray))[j]? = some x) :
    ((w.drewN q).setCells g 0 (L.reverse.map encStr)).cell? ⟨g, 0 + j, none⟩ = some (.string x) := by
  have hlt : j < L.length := by
    have := (List.getElem?_eq_some_iff.1 hj).1
    simpa using this
  rw [World.cell?_setCells_in g (L.reverse.map encStr) 0 (w.drewN q) (fun i hi => by
    simp only [List.length_map, List.length_reverse] at hi
    have := sV_cell h hn i (by omega)
    rw [World.cell?_drewN, this]; rfl) j (by simpa using hlt)]
  have hj2 : (L.reverse.map fun l => (⟨l.toArray⟩ : ByteArray))[j]'(by simpa using hlt) = x := by
    have := List.getElem?_eq_getElem (l := L.reverse.map fun l => (⟨l.toArray⟩ : ByteArray)) (i := j) (by simpa using hlt)
    rw [this] at hj
    exact Option.some.inj hj
  rw [← hj2]
  simp [encStr]
set_option maxRecDepth 100000 in
set_option maxHeartbeats 4000000 in
theorem text_any {A : Option Addr} {xs : List Nat} (c : Nat) (w : World) (h : RdU w w.heap.size A xs) (hc : xs.length ≤ c) (hn : xs.length ≤ 4294967296) (d : Dig 18446744073709551616 xs) (hT : Tab10 w) :
    Calls Tryz.prog 42 #[.slice A xs.length c] w fun e w' => e = .returned (.string ⟨(Lib.decDigits (vl 18446744073709551616 xs)).toArray⟩) ∧ Below w.heap.size w w' := by
  obtain ⟨i0, hi, hi0, hi1, hi2⟩ := info_parts info_str
  have hN : vl 18446744073709551616 xs < 2 ^ (64 * xs.length) := by
    have := vl_lt d
    rwa [show 18446744073709551616 = 2 ^ 64 from rfl, ← Nat.pow_mul] at this
  obtain ⟨N, hNe⟩ : ∃ N, vl 18446744073709551616 xs = N := ⟨_, rfl⟩
  rw [hNe] at hN ⊢
  replace hNe := Lib.hid hNe
  go_enter Tryz.func42, Tryz.ntmps42
  go_wp2_with fail
  refine (trim_nat _ _ h hc (by omega) d).mono ?_
  rintro e w1 ⟨⟨zs, rfl, r1, t1, e1, v1, l1⟩, rfl⟩
  rw [hNe.out] at v1
  have n1 : Nrm zs N := ⟨e1, t1, v1⟩
  clear h d v1 e1 t1 hNe
  go_wp2
  go_loopg [0, 3] N (fun N' av lv wr => ∃ (A' : Option Addr) (c' : Nat) (zs' : List Nat) (ps : List (List UInt8)), av = .slice A' zs'.length c' ∧ RdU wr wr.heap.size A' zs' ∧ zs'.length ≤ xs.length ∧ Nrm zs' N' ∧
    wr.ownsRow w.heap.size 9 1 lv ps.length (sV ps) ∧ Below w.heap.size w wr ∧ TextRel N N' ps)
  case atStart => exact ⟨A, zs.length, zs, [], rfl, r1, l1, n1, World.ownsRow_nil _ _ _ _, .refl _ _, .start N⟩
  case round =>
    clear r1 n1 l1
    obtain ⟨A', c', zs', ps, rfl, r1, l1, n1, hown, hbw, hR⟩ := hrel
    have hzw := hbw.size
    have hat := at_any c' 0 wr r1
    obtain ⟨hg1, hg2⟩ := nrm_great n1
    by_cases hgt : 10000000000000000000 ≤ gk
    · -- one chunk more
      have hst := hR.step hgt
      have hps := hR.few hN
      have hsh := short_any c' 10000000000000000000 wr r1 (by omega) n1.dig (by omega) (by omega)
      rw [n1.val] at hsh
      obtain ⟨M, hM⟩ : ∃ M, gk / 10000000000000000000 = M := ⟨_, rfl⟩
      obtain ⟨R, hRe⟩ : ∃ R, gk % 10000000000000000000 = R := ⟨_, rfl⟩
      have hRb : R < 10000000000000000000 := by omega
      have hMb : M < gk := by omega
      have hRl := (padd_dec 19 R (by omega) (by rw [show 10 ^ 19 = 10000000000000000000 from rfl]; exact hRb)).2
      rw [hM, hRe] at hst
      unfold RetShort at hsh
      rw [hM, hRe] at hsh
      replace hM := Lib.hid hM
      replace hRe := Lib.hid hRe
      replace hsh := Lib.hid hsh
      replace hgt := Lib.hid hgt
      replace hN := Lib.hid hN
      replace hMb := Lib.hid hMb
      replace hRb := Lib.hid hRb
      have hn1 := n1
      clear n1
      have hrep := fun (W : World) => Tryz.strings_Repeat ⟨#[48]⟩ (19 - (Lib.decDigits R).length) W (by omega) (by show 1 * _ ≤ _; omega)
      have hsub : (19 : Int) - ((Lib.decDigits R).length : Int) = ((19 - (Lib.decDigits R).length : Nat) : Int) := by omega
      replace hrep := Lib.hid hrep
      by_cases hl : 1 < zs'.length
      · have hl' : (1 : Int) < (zs'.length : Int) := by omega
        go_wp2_with fail
        refine hsh.out.mono ?_
        rintro e w1 ⟨A1, c1, z1, rfl, g1, n1, hb1⟩
        have hz1 := hb1.size
        have hT1 : Tab10 w1 := hT.below (chain hbw hb1)
        go_wp2_with fail
        refine (formatUint_any R (by have := hRb.out; omega) w1 hT1).mono ?_
        rintro e w2 ⟨rfl, hb2⟩
        have hz2' := hb2.size
        have hrl : (Lib.repeatL [48] (19 - (Lib.decDigits R).length)).length ≤ 19 := by rw [repeat_one, List.length_replicate]; omega
        go_wp2_with fail
        refine (hrep.out w2).mono ?_
        rintro e w3 ⟨rfl, hb3⟩
        have hz3 := hb3.size
        have hown3 := own_below (own_below (own_below hown hb1) hb2) hb3
        go_wp2_with (at_builtin; go_loud (refine wpList_append_own _ rfl _ _ 151 rfl w.heap.size 9 i0 (.string ⟨#[]⟩) 1 16 under_strs hi hi0 hi1 hi2 rfl (by decide) u3 _ _ rfl (hown3.alloc _) ⟨w3.heap.size, 0, none⟩ 1 1 [.string ((⟨(Lib.repeatL [48] (19 - (Lib.decDigits R).length)).toArray⟩ : ByteArray) ++ (⟨(Lib.decDigits R).toArray⟩ : ByteArray))] rfl rfl ?c1 ?c2 ?c3 ?c4 ?c5 ?_))
        case c1 =>
          intro j u hj
          rcases j with _ | j
          · simp at hj
            subst hj
            simp [Addr.add_lit]
          · simp at hj
        case c2 => intro u hu; simp at hu; subst hu; rfl
        case c3 => unfold maxLen; omega
        case c4 => omega
        case c5 => simp; omega
        intro v' w5 hown' hgr _
        rw [str_cat, repeat_one, sV_snoc] at hown'
        have hb5 := ((chain (chain (chain hbw hb1) hb2) hb3).alloc (by omega) _).grown hgr (by simp; omega) (fun j hj => (hown3.lt j hj).1)
        have r5 := (gotU_grown (gotU_alloc ((g1.below hb2).below hb3) _) hgr (fun j hj => (hown.lt j hj).2)).rd
        rw [show ps.length + 1 = (ps ++ [List.replicate (19 - (Lib.decDigits R).length) 48 ++ Lib.decDigits R]).length by simp] at hown'
        have hl1 : z1.length ≤ xs.length := Nat.le_trans (nrm_len_le n1 hn1 (Nat.le_of_lt hMb.out)) l1
        clear hown hown3 hat r1
        go_wp2
        go_roundg M
        case measure => exact hMb.out
        case rel => exact ⟨A1, c1, z1, _, rfl, r5, hl1, n1, hown', hb5, hst⟩
      · have hl' : ¬ (1 : Int) < (zs'.length : Int) := by omega
        rw [hg2 hl] at hat
        have hgt' : (10000000000000000000 : Int) ≤ (gk : Int) := by have := hgt.out; omega
        replace hat := Lib.hid hat
        go_wp2_with fail
        refine hat.out.mono ?_
        rintro e w' ⟨rfl, rfl⟩
        go_wp2_with fail
        refine hsh.out.mono ?_
        rintro e w1 ⟨A1, c1, z1, rfl, g1, n1, hb1⟩
        have hz1 := hb1.size
        have hT1 : Tab10 w1 := hT.below (chain hbw hb1)
        go_wp2_with fail
        refine (formatUint_any R (by have := hRb.out; omega) w1 hT1).mono ?_
        rintro e w2 ⟨rfl, hb2⟩
        have hz2' := hb2.size
        have hrl : (Lib.repeatL [48] (19 - (Lib.decDigits R).length)).length ≤ 19 := by rw [repeat_one, List.length_replicate]; omega
        go_wp2_with fail
        refine (hrep.out w2).mono ?_
        rintro e w3 ⟨rfl, hb3⟩
        have hz3 := hb3.size
        have hown3 := own_below (own_below (own_below hown hb1) hb2) hb3
        go_wp2_with (at_builtin; go_loud (refine wpList_append_own _ rfl _ _ 151 rfl w.heap.size 9 i0 (.string ⟨#[]⟩) 1 16 under_strs hi hi0 hi1 hi2 rfl (by decide) u3 _ _ rfl (hown3.alloc _) ⟨w3.heap.size, 0, none⟩ 1 1 [.string ((⟨(Lib.repeatL [48] (19 - (Lib.decDigits R).length)).toArray⟩ : ByteArray) ++ (⟨(Lib.decDigits R).toArray⟩ : ByteArray))] rfl rfl ?c1 ?c2 ?c3 ?c4 ?c5 ?_))
        case c1 =>
          intro j u hj
          rcases j with _ | j
          · simp at hj
            subst hj
            simp [Addr.add_lit]
          · simp at hj
        case c2 => intro u hu; simp at hu; subst hu; rfl
        case c3 => unfold maxLen; omega
        case c4 => omega
        case c5 => simp; omega
        intro v' w5 hown' hgr _
        rw [str_cat, repeat_one, sV_snoc] at hown'
        have hb5 := ((chain (chain (chain hbw hb1) hb2) hb3).alloc (by omega) _).grown hgr (by simp; omega) (fun j hj => (hown3.lt j hj).1)
        have r5 := (gotU_grown (gotU_alloc ((g1.below hb2).below hb3) _) hgr (fun j hj => (hown.lt j hj).2)).rd
        rw [show ps.length + 1 = (ps ++ [List.replicate (19 - (Lib.decDigits R).length) 48 ++ Lib.decDigits R]).length by simp] at hown'
        have hl1 : z1.length ≤ xs.length := Nat.le_trans (nrm_len_le n1 hn1 (Nat.le_of_lt hMb.out)) l1
        clear hown hown3 hat r1
        go_wp2
        go_roundg M
        case measure => exact hMb.out
        case rel => exact ⟨A1, c1, z1, _, rfl, r5, hl1, n1, hown', hb5, hst⟩
    · have hl : ¬ 1 < zs'.length := fun h => hgt (hg1 h)
      have hl' : ¬ (1 : Int) < (zs'.length : Int) := by omega
      rw [hg2 hl] at hat
      have hgt' : decide ((10000000000000000000 : Int) ≤ (gk : Int)) = false := by rw [decide_eq_false_iff_not]; omega
      have hg64 := Lib.hid (show gk < 18446744073709551616 by omega)
      have hps := hR.few hN
      have hTr : Tab10 wr := hT.below hbw
      have htx := hR.txt
      have hdl := dec_len_bound (k := 64 * xs.length + 1) (Nat.lt_of_lt_of_le hN (Nat.pow_le_pow_right (by omega) (Nat.le_succ _))) (by omega)
      replace hat := Lib.hid hat
      replace htx := Lib.hid htx
      replace hN := Lib.hid hN
      clear hgt hl n1 hg1 hg2 hR
      go_wp2_with fail
      refine hat.out.mono ?_
      rintro e w' ⟨rfl, rfl⟩
      go_wp2_with fail
      refine hat.out.mono ?_
      rintro e w' ⟨rfl, rfl⟩
      go_wp2_with fail
      refine (formatUint_any gk hg64.out wr hTr).mono ?_
      rintro e w1 ⟨rfl, hb1⟩
      have hz1 := hb1.size
      have hown1 := own_below hown hb1
      go_wp2_with (at_builtin; refine wpList_append_own _ rfl _ _ 151 rfl w.heap.size 9 i0 (.string ⟨#[]⟩) 1 16 under_strs hi hi0 hi1 hi2 rfl (by decide) u3 _ _ rfl (hown1.alloc _) ⟨w1.heap.size, 0, none⟩ 1 1 [.string ⟨(Lib.decDigits gk).toArray⟩] rfl rfl ?c1 ?c2 ?c3 ?c4 ?c5 ?_)
      case c1 =>
        intro j u hj
        rcases j with _ | j
        · simp at hj
          subst hj
          simp [Addr.add_lit]
        · simp at hj
      case c2 => intro u hu; simp at hu; subst hu; rfl
      case c3 => unfold maxLen; omega
      case c4 => omega
      case c5 => simp; omega
      intro v' w5 hown' hgr _
      rw [sV_snoc] at hown'
      have hb5 := ((chain hbw hb1).alloc (by omega) _).grown hgr (by simp; omega) (fun j hj => (hown1.lt j hj).1)
      obtain ⟨g, cap, rfl⟩ := ownsRow_succ hown'
      obtain ⟨L, hL⟩ : ∃ L, ps ++ [Lib.decDigits gk] = L := ⟨_, rfl⟩
      rw [hL] at hown'
      have hLl : ps.length + 1 = L.length := by rw [← hL]; simp
      have hfl : L.reverse.flatten = Lib.decDigits N := by rw [← hL, htx.out]; simp
      rw [hLl] at hown' ⊢
      have hgb := hown'.lt g rfl
      have hrv := Tryz.slices_Reverse_string_cells g 0 L.length cap (sX L) w5 (by omega) (fun i hi => sV_cell hown' rfl i hi) (fun j _ => by rw [Nat.zero_add]; exact hown'.frozenAt j)
      rw [strsOf_sX] at hrv
      have hcap : L.length ≤ cap := by
        rcases hown'.2 with ⟨h0, _⟩ | ⟨g', cap', cur, h', _, _, hcc, _⟩
        · cases h0
        · injection h' with _ _ h2
          omega
      have hsum : (Lib.join ((L.reverse.map fun l => (⟨l.toArray⟩ : ByteArray)).map (·.data.toList)) []) = Lib.decDigits N := by
        rw [join_empty, List.map_map, ← hfl]
        congr 1
        exact List.map_id' _
      have hjn := fun q => Tryz.strings_Join g 0 cap (L.reverse.map fun l => (⟨l.toArray⟩ : ByteArray)) ⟨#[]⟩ ((w5.drewN q).setCells g 0 (L.reverse.map encStr)) (fun j x hj => rev_cell hown' rfl j x hj)
        (Nat.lt_of_lt_of_le hgb.2 (Lib.below_setCells_w (B := 0) (Nat.zero_le _) _ _ (w5.drewN q)).size) (by simp; omega) (by simpa using hcap) (by rw [hsum]; omega)
      rw [hsum] at hjn
      simp only [List.length_map, List.length_reverse] at hjn
      have hfin := fun q => hb5.trans ((Drawn.below (B := w.heap.size) ⟨q, rfl⟩).trans (Lib.below_setCells_w hgb.1 (L.reverse.map encStr) 0 (w5.drewN q)))
      have hLl2 : (ps.length : Int) + 1 = (L.length : Int) := by omega
      replace hLl := Lib.hid hLl
      replace hL := Lib.hid hL
      replace hfl := Lib.hid hfl
      replace hsum := Lib.hid hsum
      replace hrv := Lib.hid hrv
      replace hjn := Lib.hid hjn
      replace hfin := Lib.hid hfin
      replace hown' := Lib.hid hown'
      clear hown hown1 hgr
      go_wp2_with fail
      refine hrv.out.mono ?_
      rintro e w6 ⟨rfl, q, rfl⟩
      go_wp2_with fail
      rw [← List.map_reverse]
      refine (hjn.out q).mono ?_
      rintro e w7 ⟨rfl, hb7⟩
      go_wp2
      go_ret
      exact ⟨rfl, chain (hfin.out q) hb7⟩
end Go.Proofs.YtncfbleeidjflaaGreatDoor
