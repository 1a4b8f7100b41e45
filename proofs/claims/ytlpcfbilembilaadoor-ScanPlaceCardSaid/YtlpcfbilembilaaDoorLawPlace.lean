/- The law ScanPlace, walked. Condition: the table of powers reads as it is laid. -/
import Derived.Test.YtlpcfbilembilaaDoorScanI
import Derived.Test.YtlpcfbilembilaaDoorScanY
namespace Go.Proofs.YtlpcfbilembilaaDoor
open Go.RowKit Go.Cal
def anyOk (l : List UInt8) (p i : Nat) : Bool := (endL.take i).any fun e => (textS (l.take p ++ e)).1
theorem ends_cell (i : Nat) (h : i < 9) : (#[.string ⟨#[]⟩, .string ⟨#[48]⟩, .string ⟨#[110, 102]⟩, .string ⟨#[102]⟩, .string ⟨#[105, 110, 102]⟩, .string ⟨#[97, 110]⟩, .string ⟨#[110]⟩, .string ⟨#[97, 82]⟩, .string ⟨#[82]⟩] : Array Value)[i]? = some (.string (strL (endL.getD i []))) := by
  obtain rfl | rfl | rfl | rfl | rfl | rfl | rfl | rfl | rfl : i = 0 ∨ i = 1 ∨ i = 2 ∨ i = 3 ∨ i = 4 ∨ i = 5 ∨ i = 6 ∨ i = 7 ∨ i = 8 := by omega
  all_goals rfl
theorem anyOk_step (l : List UInt8) (p i : Nat) (h : i < 9) : anyOk l p (i + 1) = (anyOk l p i || (textS (l.take p ++ endL.getD i [])).1) := by
  unfold anyOk
  have hl : i < endL.length := h
  rw [List.take_succ_eq_append_getElem hl, List.any_append, List.getD_eq_getElem?_getD, List.getElem?_eq_getElem hl]
  simp
theorem any_next {l E et : List UInt8} {p i : Nat} {b : Bool} (hb : b = anyOk l p i) (hE : endL.getD i [] = E) (het : l.take p ++ E = et) (h : i < 9) : (b || (textS et).1) = anyOk l p (i + 1) := by
  rw [anyOk_step l p i h, hb, hE, het]
theorem ends_len (i : Nat) : (endL.getD i []).length ≤ 3 := by
  by_cases h : i < 9
  · obtain rfl | rfl | rfl | rfl | rfl | rfl | rfl | rfl | rfl : i = 0 ∨ i = 1 ∨ i = 2 ∨ i = 3 ∨ i = 4 ∨ i = 5 ∨ i = 6 ∨ i = 7 ∨ i = 8 := by omega
    all_goals decide
  · rw [List.getD_eq_getElem?_getD, List.getElem?_eq_none (by show 9 ≤ i; omega)]
    simp
set_option maxRecDepth 100000 in
set_option maxHeartbeats 12000000 in
theorem scanPlace_any (v : Value) (w : World) (hT : Tab10 w) (h0 : ArgB w v) :
    Calls Tryd.prog 3 #[v] w fun e w' => e = .returned (.bool true) ∧ Below w.heap.size w w' := by
  obtain ⟨A, c, k, l, rfl, hr, hmi, hmc, hcm, hl⟩ := h0.cut 100
  obtain ⟨n, hn⟩ : ∃ n, l.length = n := ⟨_, rfl⟩
  have hsl := fun w => slice_head A k c (l.length : Int) w (by omega) hmc
  simp only [hn, Int.toNat_natCast] at hsl
  rw [hn] at hmi hmc hl
  replace hmi : min (k : Int) 100 = (n : Int) := hmi
  have hL := (LiveP.start w).put (pR_st A l) hr
  by_cases hok : (textS l).1 = true
  · obtain ⟨it, hit⟩ : ∃ x, textV 1125899906842624 l = x := ⟨_, rfl⟩
    have hy := fun w hr => scan_yes (A := A) (c := c) l it n hok hit hn (by omega) w hr
    replace hit := Lib.hid hit
    replace hok := Lib.hid hok
    go_enter Tryd.func3, Tryd.ntmps3
    go_wp2_with fail
    refine (shown_any w hT).mono ?_
    rintro e w1 ⟨rfl, hb⟩
    replace hL := hL.go hb
    clear hb
    go_wp2_with fail
    refine (hy _ (hL.get (P := pR A l) (by repeat (first | exact List.mem_cons_self | apply List.mem_cons_of_mem)))).mono ?_
    rintro e w2 ⟨A2, n2, c2, rfl, hd, hb⟩
    replace hL := (hL.go hb).go ((Below.refl _ _).alloc (Nat.le_refl _) (.cells #[.int .i64 (it.kind : Nat), .bool it.neg, .slice A2 n2 c2, .int .i64 it.k, .int .i64 it.big, .bool it.cut] 27))
    clear hb hd hy
    go_wp2
    go_ret
    exact ⟨rfl, hL.below⟩
  · have hok' : (textS l).1 = false := by simpa using hok
    obtain ⟨hpl, hgo, hdead⟩ := text_place l hok'
    obtain ⟨p, hp⟩ : ∃ p, (textS l).2 = p := ⟨_, rfl⟩
    rw [hp] at hpl hgo hdead
    rw [hn] at hpl hdead
    have hpi : ¬ (p : Int) < 0 := by omega
    have hpn : ¬ (n : Int) < (p : Int) := by omega
    have hpnn : ¬ n < p := by omega
    have hpnd : decide (n < p) = false := decide_eq_false hpnn
    have hy := fun w hr => scan_no (A := A) (c := c) l p n hok' hp hn (by omega) w hr
    have hsp := fun w => slice_head A n c (p : Int) w (by omega) (by omega)
    simp only [Int.toNat_natCast] at hsp
    replace hok' := Lib.hid hok'
    replace hp := Lib.hid hp
    replace hgo := Lib.hid hgo
    replace hdead := Lib.hid hdead
    clear hok
    go_enter Tryd.func3, Tryd.ntmps3
    go_wp2_with fail
    refine (shown_any w hT).mono ?_
    rintro e w1 ⟨rfl, hb⟩
    replace hL := hL.go hb
    clear hb
    go_wp2_with fail
    refine (hy _ (hL.get (P := pR A l) (by repeat (first | exact List.mem_cons_self | apply List.mem_cons_of_mem)))).mono ?_
    rintro e w2 ⟨rfl, hb⟩
    replace hL := (hL.go hb).go ((Below.refl _ _).alloc (Nat.le_refl _) (.cells #[.int .i64 0, .bool false, .slice none 0 0, .int .i64 0, .int .i64 0, .bool false] 27))
    clear hb hy
    go_wp2
    have hS : ∀ P, Stable P → True := fun _ _ => trivial
    obtain ⟨wS, hwS⟩ : ∃ x, (w2.alloc (.cells #[.int .i64 0, .bool false, .slice none 0 0, .int .i64 0, .int .i64 0, .bool false] 27)).alloc (.cells #[.string ⟨#[]⟩, .string ⟨#[48]⟩, .string ⟨#[110, 102]⟩, .string ⟨#[102]⟩, .string ⟨#[105, 110, 102]⟩, .string ⟨#[97, 110]⟩, .string ⟨#[110]⟩, .string ⟨#[97, 82]⟩, .string ⟨#[82]⟩] 9) = x := ⟨_, rfl⟩
    have hLs := hL.go ((Below.refl _ _).alloc (Nat.le_refl _) (.cells #[.string ⟨#[]⟩, .string ⟨#[48]⟩, .string ⟨#[110, 102]⟩, .string ⟨#[102]⟩, .string ⟨#[105, 110, 102]⟩, .string ⟨#[97, 110]⟩, .string ⟨#[110]⟩, .string ⟨#[97, 82]⟩, .string ⟨#[82]⟩] 9))
    have hbs := hLs.below
    have hX := ((LiveP.start _).put (pR_st A l) (hLs.get (P := pR A l) (by repeat (first | exact List.mem_cons_self | apply List.mem_cons_of_mem)))).put (pBlk_st (w2.alloc (.cells #[.int .i64 0, .bool false, .slice none 0 0, .int .i64 0, .int .i64 0, .bool false] 27)).heap.size #[.string ⟨#[]⟩, .string ⟨#[48]⟩, .string ⟨#[110, 102]⟩, .string ⟨#[102]⟩, .string ⟨#[105, 110, 102]⟩, .string ⟨#[97, 110]⟩, .string ⟨#[110]⟩, .string ⟨#[97, 82]⟩, .string ⟨#[82]⟩] 9) (pBlk_made _ _ _)
    have hge : (w2.alloc (.cells #[.int .i64 0, .bool false, .slice none 0 0, .int .i64 0, .int .i64 0, .bool false] 27)).heap.size = w2.heap.size + 1 := by simp
    rw [hge] at hX
    rw [hwS] at hbs hX
    go_loopg [8, 9] 9 (fun g gv iv wr => ∃ (i : Nat) (b : Bool), iv = .int .i64 i ∧ i + g = 9 ∧ gv = .bool b ∧ b = anyOk l p i ∧ Below wS.heap.size wS wr)
    case atStart => exact ⟨0, _, rfl, by omega, rfl, rfl, by rw [← hwS]; exact Below.refl _ _⟩
    case round =>
      obtain ⟨i, b, rfl, hik, rfl, hb, hbr⟩ := hrel
      have hX2 := hX.go hbr
      by_cases hk0 : gk = 0
      · have hbt : b = true := by
          obtain ⟨e, he, hg⟩ := hgo.out
          rw [hb, show i = 9 by omega]
          exact List.any_eq_true.2 ⟨e, he, hg⟩
        subst hbt
        have hi9 : ¬ (i : Int) < 9 := by omega
        replace hb := Lib.hid hb
        by_cases hpl2 : p < n
        · have hpn2 : (p : Int) < (n : Int) := by omega
          obtain ⟨p1, hp1⟩ : ∃ q, p + 1 = q := ⟨_, rfl⟩
          have hp1i : (p : Int) + 1 = (p1 : Int) := by omega
          have hp1n : p1 ≤ n := by omega
          have hdd := hdead.out hpl2
          have hwp1 : IntKind.i64.wrap (p1 : Int) = (p1 : Int) := by rw [IntKind.wrap_i64]; omega
          rw [hp1] at hdd
          have hsp1 := fun w => slice_head A n c (p1 : Int) w (by omega) (by omega)
          simp only [Int.toNat_natCast] at hsp1
          replace hdd := Lib.hid hdd
          replace hp1 := Lib.hid hp1
          clear hi9
          go_wp2
          go_loopg [13] 9 (fun g iv wr => ∃ i : Nat, iv = .int .i64 i ∧ i + g = 9 ∧ Below wS.heap.size wS wr)
          case atStart => exact ⟨0, rfl, by omega, hbr⟩
          case round =>
            clear hX2 hbr hb hik hk0
            obtain ⟨i, rfl, hik, hbr⟩ := hrel
            have hX2 := hX.go hbr
            by_cases hk0 : gk = 0
            · have hi9 : ¬ (i : Int) < 9 := by omega
              go_wp2
              go_ret
              exact ⟨rfl, chain hbs hbr⟩
            · have hi9 : (i : Int) < 9 := by omega
              have hce := (hX2.get (P := pBlk (w2.heap.size + 1) #[.string ⟨#[]⟩, .string ⟨#[48]⟩, .string ⟨#[110, 102]⟩, .string ⟨#[102]⟩, .string ⟨#[105, 110, 102]⟩, .string ⟨#[97, 110]⟩, .string ⟨#[110]⟩, .string ⟨#[97, 82]⟩, .string ⟨#[82]⟩] 9) (by repeat (first | exact List.mem_cons_self | apply List.mem_cons_of_mem))).cell i _ (ends_cell i (by omega))
              have hpc : p1 ≤ n := hp1n
              have hpos : posOf (l.take p1 ++ endL.getD i []) = p := by unfold posOf; rw [if_neg (by rw [(hdd.out _).1]; simp), (hdd.out _).2]
              have herr : errOf (l.take p1 ++ endL.getD i []) = 2 := by unfold errOf; rw [if_neg (by rw [(hdd.out _).1]; simp)]
              obtain ⟨E, hE⟩ : ∃ E, endL.getD i [] = E := ⟨_, rfl⟩
              have hE3 : E.length ≤ 3 := by rw [← hE]; exact ends_len i
              rw [hE] at hce hpos herr
              have hzw : w2.heap.size + 1 < wr.heap.size := (hX2.get (P := pBlk (w2.heap.size + 1) #[.string ⟨#[]⟩, .string ⟨#[48]⟩, .string ⟨#[110, 102]⟩, .string ⟨#[102]⟩, .string ⟨#[105, 110, 102]⟩, .string ⟨#[97, 110]⟩, .string ⟨#[110]⟩, .string ⟨#[97, 82]⟩, .string ⟨#[82]⟩] 9) (by repeat (first | exact List.mem_cons_self | apply List.mem_cons_of_mem))).lt
              have hzw2 : w2.heap.size < wr.heap.size := by omega
              have hzw4 : w2.heap.size + 1 < wr.heap.size + 1 := by omega
              have hlp : p1 = (l.take (p1)).length := by rw [List.length_take]; omega
              have hrt : RdB wr wr.heap.size A (l.take (p1)) := RdB.take (hX2.get (P := pR A l) (by repeat (first | exact List.mem_cons_self | apply List.mem_cons_of_mem))) _
              have hET : (l.take (p1) ++ E).length = p1 + E.length := by rw [List.length_append, ← hlp]
              have hcE := ends_cell i (by omega)
              rw [hE] at hcE
              obtain ⟨et, het⟩ : ∃ et, l.take (p1) ++ E = et := ⟨_, rfl⟩
              obtain ⟨ne, hne⟩ : ∃ m, p1 + E.length = m := ⟨_, rfl⟩
              rw [het, hne] at hET
              rw [het] at hpos herr
              have hsc := fun A c w hr => scan_res (A := A) (c := c) et et.length rfl (by omega) w hr
              replace hsc := Lib.hid hsc
              replace hE := Lib.hid hE
              replace hlp := Lib.hid hlp
              replace hET := Lib.hid hET
              replace hcE := Lib.hid hcE
              go_wp2
              go_region_law (first
                | (refine step_app rfl (.tmp 86) (.tmp 90) rfl wr.heap.size [] (l.take (p1)) rfl rfl rfl hlp.out (.none (by first | (simp; done) | (simp; omega) | omega) (by first | (simp; done) | (simp; omega) | omega)) (rd_go hrt (by ((repeat (first | with_reducible exact Below.refl _ _ | with_reducible exact hb4 | with_reducible exact hb3 | with_reducible refine Below.drew ?_ | (with_reducible refine Below.alloc ?_ ?_ _; rotate_left; (focus (first | omega | (simp; done) | (simp; omega)))))); done))) (by first | (simp; done) | (simp; omega) | omega) (by simp; omega) (fun g3 c3 w3 how hb3 ho3 hg3 => ?_); (refine (have hb3' : Below wr.heap.size wr w3 := ?_; ?_); focus (refine Below.trans ?_ hb3; ((repeat (first | with_reducible exact Below.refl _ _ | with_reducible exact hb4 | with_reducible exact hb3 | with_reducible refine Below.drew ?_ | (with_reducible refine Below.alloc ?_ ?_ _; rotate_left; (focus (first | omega | (simp; done) | (simp; omega)))))); done))); replace hb3 := hb3'; clear hb3'; rw [List.nil_append] at how; have hce3 := ((hX2.go hb3).get (P := pBlk (w2.heap.size + 1) #[.string ⟨#[]⟩, .string ⟨#[48]⟩, .string ⟨#[110, 102]⟩, .string ⟨#[102]⟩, .string ⟨#[105, 110, 102]⟩, .string ⟨#[97, 110]⟩, .string ⟨#[110]⟩, .string ⟨#[97, 82]⟩, .string ⟨#[82]⟩] 9) (by repeat (first | exact List.mem_cons_self | apply List.mem_cons_of_mem))).cell i _ hcE.out; have hz3 := hb3.size; have hzw3 : w2.heap.size + 1 < w3.heap.size := Nat.lt_of_lt_of_le hzw hz3; (first | (refine (have hs3 : pBlk wr.heap.size #[.int .i64 0, .bool false, .slice none 0 0, .int .i64 0, .int .i64 0, .bool false] 27 w3 ∧ wr.heap.size ≠ g3 := ?_; ?_); focus (refine ⟨pBlk.only ?_ ho3 ?_, pBlk.ne (cs := #[.int .i64 0, .bool false, .slice none 0 0, .int .i64 0, .int .i64 0, .bool false]) (t := 27) ?_ hg3 ?_⟩; (focus ((repeat (first | with_reducible exact hs3.1 | with_reducible exact hs4 | with_reducible refine pBlk.drew ?_ | (with_reducible refine pBlk_made' _ _ _ _ ?_; (focus (first | (simp; done) | with_reducible rfl))) | with_reducible refine pBlk.alloc ?_ _)); done)); (focus (simp; done)); (focus ((repeat (first | with_reducible exact hs3.1 | with_reducible exact hs4 | with_reducible refine pBlk.drew ?_ | (with_reducible refine pBlk_made' _ _ _ _ ?_; (focus (first | (simp; done) | with_reducible rfl))) | with_reducible refine pBlk.alloc ?_ _)); done)); (focus (simp; done)))) | (refine (have hs3 : pBlk (wr.heap.size + 1) #[.int .i64 0, .bool false, .slice none 0 0, .int .i64 0, .int .i64 0, .bool false] 27 w3 ∧ wr.heap.size + 1 ≠ g3 := ?_; ?_); focus (refine ⟨pBlk.only ?_ ho3 ?_, pBlk.ne (cs := #[.int .i64 0, .bool false, .slice none 0 0, .int .i64 0, .int .i64 0, .bool false]) (t := 27) ?_ hg3 ?_⟩; (focus ((repeat (first | with_reducible exact hs3.1 | with_reducible exact hs4 | with_reducible refine pBlk.drew ?_ | (with_reducible refine pBlk_made' _ _ _ _ ?_; (focus (first | (simp; done) | with_reducible rfl))) | with_reducible refine pBlk.alloc ?_ _)); done)); (focus (simp; done)); (focus ((repeat (first | with_reducible exact hs3.1 | with_reducible exact hs4 | with_reducible refine pBlk.drew ?_ | (with_reducible refine pBlk_made' _ _ _ _ ?_; (focus (first | (simp; done) | with_reducible rfl))) | with_reducible refine pBlk.alloc ?_ _)); done)); (focus (simp; done)))) | skip); clear ho3 hg3)
                | (refine step_app_str rfl (.tmp 91) (.tmp 95) rfl wr.heap.size (l.take (p1)) E rfl (by first | exact hlp.out | rfl) rfl (by repeat (first | with_reducible exact how | with_reducible refine OwnB.drew ?_ | with_reducible refine OwnB.alloc ?_ _)) (by first | omega | (simp; omega)) (by first | omega | (simp; omega)) (fun g4 c4 w4 how4 hb4 ho4 _ => ?_); rw [het] at how4; (refine (have hb4' : Below wr.heap.size wr w4 := ?_; ?_); focus (refine Below.trans ?_ hb4; clear hb4; ((repeat (first | with_reducible exact Below.refl _ _ | with_reducible exact hb4 | with_reducible exact hb3 | with_reducible refine Below.drew ?_ | (with_reducible refine Below.alloc ?_ ?_ _; rotate_left; (focus (first | omega | (simp; done) | (simp; omega)))))); done))); replace hb4 := hb4'; clear hb4'; have hz4 := hb4.size; (first | (refine (have hs4 : pBlk wr.heap.size #[.int .i64 0, .bool false, .slice none 0 0, .int .i64 0, .int .i64 0, .bool false] 27 w4 := ?_; ?_); focus (refine pBlk.only ?_ ho4 hs3.2; ((repeat (first | with_reducible exact hs3.1 | with_reducible exact hs4 | with_reducible refine pBlk.drew ?_ | (with_reducible refine pBlk_made' _ _ _ _ ?_; (focus (first | (simp; done) | with_reducible rfl))) | with_reducible refine pBlk.alloc ?_ _)); done))) | (refine (have hs4 : pBlk (wr.heap.size + 1) #[.int .i64 0, .bool false, .slice none 0 0, .int .i64 0, .int .i64 0, .bool false] 27 w4 := ?_; ?_); focus (refine pBlk.only ?_ ho4 hs3.2; ((repeat (first | with_reducible exact hs3.1 | with_reducible exact hs4 | with_reducible refine pBlk.drew ?_ | (with_reducible refine pBlk_made' _ _ _ _ ?_; (focus (first | (simp; done) | with_reducible rfl))) | with_reducible refine pBlk.alloc ?_ _)); done))) | (refine (have hs4 : pBlk w3.heap.size #[.int .i64 0, .bool false, .slice none 0 0, .int .i64 0, .int .i64 0, .bool false] 27 w4 := ?_; ?_); focus (refine pBlk.only ?_ ho4 (Nat.ne_of_gt how.lt); ((repeat (first | with_reducible exact hs3.1 | with_reducible exact hs4 | with_reducible refine pBlk.drew ?_ | (with_reducible refine pBlk_made' _ _ _ _ ?_; (focus (first | (simp; done) | with_reducible rfl))) | with_reducible refine pBlk.alloc ?_ _)); done))) | skip); clear ho4)
                | (go_simp; go_at_call 11; have hrd5 := fun (w' : World) (h : OwnB w' wr.heap.size g4 c4 et) => hsc.out (some ⟨g4, 0, none⟩) c4 w' h.rd; refine Calls.mono (hrd5 _ ?_) ?_; (focus ((repeat (first | with_reducible exact how4 | with_reducible refine OwnB.drew ?_ | with_reducible refine OwnB.alloc ?_ _)); done)); rintro e w5 ⟨kd, ng, A5, n5, c5, k5, bg5, ct5, rfl, hb5⟩; (first | (refine (have hs5 : pBlk wr.heap.size #[.int .i64 0, .bool false, .slice none 0 0, .int .i64 0, .int .i64 0, .bool false] 27 w5 := ?_; ?_); (focus (refine pBlk_st _ _ _ _ _ ?_ hb5; ((repeat (first | with_reducible exact hs3.1 | with_reducible exact hs4 | with_reducible refine pBlk.drew ?_ | (with_reducible refine pBlk_made' _ _ _ _ ?_; (focus (first | (simp; done) | with_reducible rfl))) | with_reducible refine pBlk.alloc ?_ _)); done))); have q0 := hs5.cell 0 _ rfl; have q1 := hs5.cell 1 _ rfl; have q2 := hs5.cell 2 _ rfl; have q3 := hs5.cell 3 _ rfl; have q4 := hs5.cell 4 _ rfl; have q5 := hs5.cell 5 _ rfl; have f0 := hs5.free 0; have f1 := hs5.free 1; have f2 := hs5.free 2; have f3 := hs5.free 3; have f4 := hs5.free 4; have f5 := hs5.free 5; have hz5 := hs5.lt) | (refine (have hs5 : pBlk (wr.heap.size + 1) #[.int .i64 0, .bool false, .slice none 0 0, .int .i64 0, .int .i64 0, .bool false] 27 w5 := ?_; ?_); (focus (refine pBlk_st _ _ _ _ _ ?_ hb5; ((repeat (first | with_reducible exact hs3.1 | with_reducible exact hs4 | with_reducible refine pBlk.drew ?_ | (with_reducible refine pBlk_made' _ _ _ _ ?_; (focus (first | (simp; done) | with_reducible rfl))) | with_reducible refine pBlk.alloc ?_ _)); done))); have q0 := hs5.cell 0 _ rfl; have q1 := hs5.cell 1 _ rfl; have q2 := hs5.cell 2 _ rfl; have q3 := hs5.cell 3 _ rfl; have q4 := hs5.cell 4 _ rfl; have q5 := hs5.cell 5 _ rfl; have f0 := hs5.free 0; have f1 := hs5.free 1; have f2 := hs5.free 2; have f3 := hs5.free 3; have f4 := hs5.free 4; have f5 := hs5.free 5; have hz5 := hs5.lt) | (refine (have hs5 : pBlk w3.heap.size #[.int .i64 0, .bool false, .slice none 0 0, .int .i64 0, .int .i64 0, .bool false] 27 w5 := ?_; ?_); (focus (refine pBlk_st _ _ _ _ _ ?_ hb5; ((repeat (first | with_reducible exact hs3.1 | with_reducible exact hs4 | with_reducible refine pBlk.drew ?_ | (with_reducible refine pBlk_made' _ _ _ _ ?_; (focus (first | (simp; done) | with_reducible rfl))) | with_reducible refine pBlk.alloc ?_ _)); done))); have q0 := hs5.cell 0 _ rfl; have q1 := hs5.cell 1 _ rfl; have q2 := hs5.cell 2 _ rfl; have q3 := hs5.cell 3 _ rfl; have q4 := hs5.cell 4 _ rfl; have q5 := hs5.cell 5 _ rfl; have f0 := hs5.free 0; have f1 := hs5.free 1; have f2 := hs5.free 2; have f3 := hs5.free 3; have f4 := hs5.free 4; have f5 := hs5.free 5; have hz5 := hs5.lt) | (refine (have hs5 : pBlk w4.heap.size #[.int .i64 0, .bool false, .slice none 0 0, .int .i64 0, .int .i64 0, .bool false] 27 w5 := ?_; ?_); (focus (refine pBlk_st _ _ _ _ _ ?_ hb5; ((repeat (first | with_reducible exact hs3.1 | with_reducible exact hs4 | with_reducible refine pBlk.drew ?_ | (with_reducible refine pBlk_made' _ _ _ _ ?_; (focus (first | (simp; done) | with_reducible rfl))) | with_reducible refine pBlk.alloc ?_ _)); done))); have q0 := hs5.cell 0 _ rfl; have q1 := hs5.cell 1 _ rfl; have q2 := hs5.cell 2 _ rfl; have q3 := hs5.cell 3 _ rfl; have q4 := hs5.cell 4 _ rfl; have q5 := hs5.cell 5 _ rfl; have f0 := hs5.free 0; have f1 := hs5.free 1; have f2 := hs5.free 2; have f3 := hs5.free 3; have f4 := hs5.free 4; have f5 := hs5.free 5; have hz5 := hs5.lt) | skip); (refine (have hb5' : Below wr.heap.size wr w5 := ?_; ?_); focus (refine chain ?_ hb5; ((repeat (first | with_reducible exact Below.refl _ _ | with_reducible exact hb4 | with_reducible exact hb3 | with_reducible refine Below.drew ?_ | (with_reducible refine Below.alloc ?_ ?_ _; rotate_left; (focus (first | omega | (simp; done) | (simp; omega)))))); done))); replace hb5 := hb5'; clear hb5'))
              all_goals
                have hbS : Below wS.heap.size wS w5 := chain hbr hb5
                have hsz5 := hb5.size
                have hszS := hbr.size
                go_wp2
                go_roundg (gk - 1)
                case measure => omega
                case rel => exact ⟨i + 1, by go_num, by omega, (by (repeat (first | with_reducible exact hbS | with_reducible refine Below.drew ?_ | (with_reducible refine Below.setCell ?_ ?_ _; rotate_left; (focus (first | omega | (simp; done) | (simp; omega)))) | (with_reducible refine Below.alloc ?_ ?_ _; rotate_left; (focus (first | omega | (simp; done) | (simp; omega)))))); done)⟩
        · have hpn2 : ¬ (p : Int) < (n : Int) := by omega
          clear hi9
          go_wp2
          go_loopg [13] 0 (fun g iv wx => iv = .int .i64 0 ∧ wr = wx)
          case atStart => exact ⟨rfl, rfl⟩
          case round =>
            obtain ⟨rfl, rfl⟩ := hrel
            go_wp2
            go_ret
            exact ⟨rfl, chain hbs hbr⟩
      · have hi9 : (i : Int) < 9 := by omega
        have hce := (hX2.get (P := pBlk (w2.heap.size + 1) #[.string ⟨#[]⟩, .string ⟨#[48]⟩, .string ⟨#[110, 102]⟩, .string ⟨#[102]⟩, .string ⟨#[105, 110, 102]⟩, .string ⟨#[97, 110]⟩, .string ⟨#[110]⟩, .string ⟨#[97, 82]⟩, .string ⟨#[82]⟩] 9) (by repeat (first | exact List.mem_cons_self | apply List.mem_cons_of_mem))).cell i _ (ends_cell i (by omega))
        have hpc : p ≤ n := hpl
        replace hb := Lib.hid hb
        obtain ⟨E, hE⟩ : ∃ E, endL.getD i [] = E := ⟨_, rfl⟩
        have hE3 : E.length ≤ 3 := by rw [← hE]; exact ends_len i
        rw [hE] at hce
        have hzw : w2.heap.size + 1 < wr.heap.size := (hX2.get (P := pBlk (w2.heap.size + 1) #[.string ⟨#[]⟩, .string ⟨#[48]⟩, .string ⟨#[110, 102]⟩, .string ⟨#[102]⟩, .string ⟨#[105, 110, 102]⟩, .string ⟨#[97, 110]⟩, .string ⟨#[110]⟩, .string ⟨#[97, 82]⟩, .string ⟨#[82]⟩] 9) (by repeat (first | exact List.mem_cons_self | apply List.mem_cons_of_mem))).lt
        have hzw2 : w2.heap.size < wr.heap.size := by omega
        have hzw4 : w2.heap.size + 1 < wr.heap.size + 1 := by omega
        have hlp : p = (l.take (p)).length := by rw [List.length_take]; omega
        have hrt : RdB wr wr.heap.size A (l.take (p)) := RdB.take (hX2.get (P := pR A l) (by repeat (first | exact List.mem_cons_self | apply List.mem_cons_of_mem))) _
        have hET : (l.take (p) ++ E).length = p + E.length := by rw [List.length_append, ← hlp]
        have hcE := ends_cell i (by omega)
        rw [hE] at hcE
        obtain ⟨et, het⟩ : ∃ et, l.take (p) ++ E = et := ⟨_, rfl⟩
        obtain ⟨ne, hne⟩ : ∃ m, p + E.length = m := ⟨_, rfl⟩
        rw [het, hne] at hET
        have hsc := fun A c w hr => scan_res (A := A) (c := c) et et.length rfl (by omega) w hr
        replace hsc := Lib.hid hsc
        replace hE := Lib.hid hE
        replace hlp := Lib.hid hlp
        replace hET := Lib.hid hET
        replace hcE := Lib.hid hcE
        go_wp2
        go_region_law (first
          | (refine step_app rfl (.tmp 52) (.tmp 55) rfl wr.heap.size [] (l.take (p)) rfl rfl rfl hlp.out (.none (by first | (simp; done) | (simp; omega) | omega) (by first | (simp; done) | (simp; omega) | omega)) (rd_go hrt (by ((repeat (first | with_reducible exact Below.refl _ _ | with_reducible exact hb4 | with_reducible exact hb3 | with_reducible refine Below.drew ?_ | (with_reducible refine Below.alloc ?_ ?_ _; rotate_left; (focus (first | omega | (simp; done) | (simp; omega)))))); done))) (by first | (simp; done) | (simp; omega) | omega) (by simp; omega) (fun g3 c3 w3 how hb3 ho3 hg3 => ?_); (refine (have hb3' : Below wr.heap.size wr w3 := ?_; ?_); focus (refine Below.trans ?_ hb3; ((repeat (first | with_reducible exact Below.refl _ _ | with_reducible exact hb4 | with_reducible exact hb3 | with_reducible refine Below.drew ?_ | (with_reducible refine Below.alloc ?_ ?_ _; rotate_left; (focus (first | omega | (simp; done) | (simp; omega)))))); done))); replace hb3 := hb3'; clear hb3'; rw [List.nil_append] at how; have hce3 := ((hX2.go hb3).get (P := pBlk (w2.heap.size + 1) #[.string ⟨#[]⟩, .string ⟨#[48]⟩, .string ⟨#[110, 102]⟩, .string ⟨#[102]⟩, .string ⟨#[105, 110, 102]⟩, .string ⟨#[97, 110]⟩, .string ⟨#[110]⟩, .string ⟨#[97, 82]⟩, .string ⟨#[82]⟩] 9) (by repeat (first | exact List.mem_cons_self | apply List.mem_cons_of_mem))).cell i _ hcE.out; have hz3 := hb3.size; have hzw3 : w2.heap.size + 1 < w3.heap.size := Nat.lt_of_lt_of_le hzw hz3; (first | (refine (have hs3 : pBlk wr.heap.size #[.int .i64 0, .bool false, .slice none 0 0, .int .i64 0, .int .i64 0, .bool false] 27 w3 ∧ wr.heap.size ≠ g3 := ?_; ?_); focus (refine ⟨pBlk.only ?_ ho3 ?_, pBlk.ne (cs := #[.int .i64 0, .bool false, .slice none 0 0, .int .i64 0, .int .i64 0, .bool false]) (t := 27) ?_ hg3 ?_⟩; (focus ((repeat (first | with_reducible exact hs3.1 | with_reducible exact hs4 | with_reducible refine pBlk.drew ?_ | (with_reducible refine pBlk_made' _ _ _ _ ?_; (focus (first | (simp; done) | with_reducible rfl))) | with_reducible refine pBlk.alloc ?_ _)); done)); (focus (simp; done)); (focus ((repeat (first | with_reducible exact hs3.1 | with_reducible exact hs4 | with_reducible refine pBlk.drew ?_ | (with_reducible refine pBlk_made' _ _ _ _ ?_; (focus (first | (simp; done) | with_reducible rfl))) | with_reducible refine pBlk.alloc ?_ _)); done)); (focus (simp; done)))) | (refine (have hs3 : pBlk (wr.heap.size + 1) #[.int .i64 0, .bool false, .slice none 0 0, .int .i64 0, .int .i64 0, .bool false] 27 w3 ∧ wr.heap.size + 1 ≠ g3 := ?_; ?_); focus (refine ⟨pBlk.only ?_ ho3 ?_, pBlk.ne (cs := #[.int .i64 0, .bool false, .slice none 0 0, .int .i64 0, .int .i64 0, .bool false]) (t := 27) ?_ hg3 ?_⟩; (focus ((repeat (first | with_reducible exact hs3.1 | with_reducible exact hs4 | with_reducible refine pBlk.drew ?_ | (with_reducible refine pBlk_made' _ _ _ _ ?_; (focus (first | (simp; done) | with_reducible rfl))) | with_reducible refine pBlk.alloc ?_ _)); done)); (focus (simp; done)); (focus ((repeat (first | with_reducible exact hs3.1 | with_reducible exact hs4 | with_reducible refine pBlk.drew ?_ | (with_reducible refine pBlk_made' _ _ _ _ ?_; (focus (first | (simp; done) | with_reducible rfl))) | with_reducible refine pBlk.alloc ?_ _)); done)); (focus (simp; done)))) | skip); clear ho3 hg3)
          | (refine step_app_str rfl (.tmp 56) (.tmp 60) rfl wr.heap.size (l.take (p)) E rfl (by first | exact hlp.out | rfl) rfl (by repeat (first | with_reducible exact how | with_reducible refine OwnB.drew ?_ | with_reducible refine OwnB.alloc ?_ _)) (by first | omega | (simp; omega)) (by first | omega | (simp; omega)) (fun g4 c4 w4 how4 hb4 ho4 _ => ?_); rw [het] at how4; (refine (have hb4' : Below wr.heap.size wr w4 := ?_; ?_); focus (refine Below.trans ?_ hb4; clear hb4; ((repeat (first | with_reducible exact Below.refl _ _ | with_reducible exact hb4 | with_reducible exact hb3 | with_reducible refine Below.drew ?_ | (with_reducible refine Below.alloc ?_ ?_ _; rotate_left; (focus (first | omega | (simp; done) | (simp; omega)))))); done))); replace hb4 := hb4'; clear hb4'; have hz4 := hb4.size; (first | (refine (have hs4 : pBlk wr.heap.size #[.int .i64 0, .bool false, .slice none 0 0, .int .i64 0, .int .i64 0, .bool false] 27 w4 := ?_; ?_); focus (refine pBlk.only ?_ ho4 hs3.2; ((repeat (first | with_reducible exact hs3.1 | with_reducible exact hs4 | with_reducible refine pBlk.drew ?_ | (with_reducible refine pBlk_made' _ _ _ _ ?_; (focus (first | (simp; done) | with_reducible rfl))) | with_reducible refine pBlk.alloc ?_ _)); done))) | (refine (have hs4 : pBlk (wr.heap.size + 1) #[.int .i64 0, .bool false, .slice none 0 0, .int .i64 0, .int .i64 0, .bool false] 27 w4 := ?_; ?_); focus (refine pBlk.only ?_ ho4 hs3.2; ((repeat (first | with_reducible exact hs3.1 | with_reducible exact hs4 | with_reducible refine pBlk.drew ?_ | (with_reducible refine pBlk_made' _ _ _ _ ?_; (focus (first | (simp; done) | with_reducible rfl))) | with_reducible refine pBlk.alloc ?_ _)); done))) | (refine (have hs4 : pBlk w3.heap.size #[.int .i64 0, .bool false, .slice none 0 0, .int .i64 0, .int .i64 0, .bool false] 27 w4 := ?_; ?_); focus (refine pBlk.only ?_ ho4 (Nat.ne_of_gt how.lt); ((repeat (first | with_reducible exact hs3.1 | with_reducible exact hs4 | with_reducible refine pBlk.drew ?_ | (with_reducible refine pBlk_made' _ _ _ _ ?_; (focus (first | (simp; done) | with_reducible rfl))) | with_reducible refine pBlk.alloc ?_ _)); done))) | skip); clear ho4)
          | (go_simp; go_at_call 11; have hrd5 := fun (w' : World) (h : OwnB w' wr.heap.size g4 c4 et) => hsc.out (some ⟨g4, 0, none⟩) c4 w' h.rd; refine Calls.mono (hrd5 _ ?_) ?_; (focus ((repeat (first | with_reducible exact how4 | with_reducible refine OwnB.drew ?_ | with_reducible refine OwnB.alloc ?_ _)); done)); rintro e w5 ⟨kd, ng, A5, n5, c5, k5, bg5, ct5, rfl, hb5⟩; (first | (refine (have hs5 : pBlk wr.heap.size #[.int .i64 0, .bool false, .slice none 0 0, .int .i64 0, .int .i64 0, .bool false] 27 w5 := ?_; ?_); (focus (refine pBlk_st _ _ _ _ _ ?_ hb5; ((repeat (first | with_reducible exact hs3.1 | with_reducible exact hs4 | with_reducible refine pBlk.drew ?_ | (with_reducible refine pBlk_made' _ _ _ _ ?_; (focus (first | (simp; done) | with_reducible rfl))) | with_reducible refine pBlk.alloc ?_ _)); done))); have q0 := hs5.cell 0 _ rfl; have q1 := hs5.cell 1 _ rfl; have q2 := hs5.cell 2 _ rfl; have q3 := hs5.cell 3 _ rfl; have q4 := hs5.cell 4 _ rfl; have q5 := hs5.cell 5 _ rfl; have f0 := hs5.free 0; have f1 := hs5.free 1; have f2 := hs5.free 2; have f3 := hs5.free 3; have f4 := hs5.free 4; have f5 := hs5.free 5; have hz5 := hs5.lt) | (refine (have hs5 : pBlk (wr.heap.size + 1) #[.int .i64 0, .bool false, .slice none 0 0, .int .i64 0, .int .i64 0, .bool false] 27 w5 := ?_; ?_); (focus (refine pBlk_st _ _ _ _ _ ?_ hb5; ((repeat (first | with_reducible exact hs3.1 | with_reducible exact hs4 | with_reducible refine pBlk.drew ?_ | (with_reducible refine pBlk_made' _ _ _ _ ?_; (focus (first | (simp; done) | with_reducible rfl))) | with_reducible refine pBlk.alloc ?_ _)); done))); have q0 := hs5.cell 0 _ rfl; have q1 := hs5.cell 1 _ rfl; have q2 := hs5.cell 2 _ rfl; have q3 := hs5.cell 3 _ rfl; have q4 := hs5.cell 4 _ rfl; have q5 := hs5.cell 5 _ rfl; have f0 := hs5.free 0; have f1 := hs5.free 1; have f2 := hs5.free 2; have f3 := hs5.free 3; have f4 := hs5.free 4; have f5 := hs5.free 5; have hz5 := hs5.lt) | (refine (have hs5 : pBlk w3.heap.size #[.int .i64 0, .bool false, .slice none 0 0, .int .i64 0, .int .i64 0, .bool false] 27 w5 := ?_; ?_); (focus (refine pBlk_st _ _ _ _ _ ?_ hb5; ((repeat (first | with_reducible exact hs3.1 | with_reducible exact hs4 | with_reducible refine pBlk.drew ?_ | (with_reducible refine pBlk_made' _ _ _ _ ?_; (focus (first | (simp; done) | with_reducible rfl))) | with_reducible refine pBlk.alloc ?_ _)); done))); have q0 := hs5.cell 0 _ rfl; have q1 := hs5.cell 1 _ rfl; have q2 := hs5.cell 2 _ rfl; have q3 := hs5.cell 3 _ rfl; have q4 := hs5.cell 4 _ rfl; have q5 := hs5.cell 5 _ rfl; have f0 := hs5.free 0; have f1 := hs5.free 1; have f2 := hs5.free 2; have f3 := hs5.free 3; have f4 := hs5.free 4; have f5 := hs5.free 5; have hz5 := hs5.lt) | (refine (have hs5 : pBlk w4.heap.size #[.int .i64 0, .bool false, .slice none 0 0, .int .i64 0, .int .i64 0, .bool false] 27 w5 := ?_; ?_); (focus (refine pBlk_st _ _ _ _ _ ?_ hb5; ((repeat (first | with_reducible exact hs3.1 | with_reducible exact hs4 | with_reducible refine pBlk.drew ?_ | (with_reducible refine pBlk_made' _ _ _ _ ?_; (focus (first | (simp; done) | with_reducible rfl))) | with_reducible refine pBlk.alloc ?_ _)); done))); have q0 := hs5.cell 0 _ rfl; have q1 := hs5.cell 1 _ rfl; have q2 := hs5.cell 2 _ rfl; have q3 := hs5.cell 3 _ rfl; have q4 := hs5.cell 4 _ rfl; have q5 := hs5.cell 5 _ rfl; have f0 := hs5.free 0; have f1 := hs5.free 1; have f2 := hs5.free 2; have f3 := hs5.free 3; have f4 := hs5.free 4; have f5 := hs5.free 5; have hz5 := hs5.lt) | skip); (refine (have hb5' : Below wr.heap.size wr w5 := ?_; ?_); focus (refine chain ?_ hb5; ((repeat (first | with_reducible exact Below.refl _ _ | with_reducible exact hb4 | with_reducible exact hb3 | with_reducible refine Below.drew ?_ | (with_reducible refine Below.alloc ?_ ?_ _; rotate_left; (focus (first | omega | (simp; done) | (simp; omega)))))); done))); replace hb5 := hb5'; clear hb5'))
        all_goals
          have hbS : Below wS.heap.size wS w5 := chain hbr hb5
          have hsz5 := hb5.size
          have hszS := hbr.size
          cases b
          · by_cases hf : errOf et = 0
            · have hstep := any_next hb.out hE.out het (by omega)
              rw [errOf_yes rfl hf] at hstep
              go_wp2
              go_roundg (gk - 1)
              case measure => omega
              case rel => exact ⟨i + 1, _, by go_num, by omega, rfl, hstep, (by (repeat (first | with_reducible exact hbS | with_reducible refine Below.drew ?_ | (with_reducible refine Below.setCell ?_ ?_ _; rotate_left; (focus (first | omega | (simp; done) | (simp; omega)))) | (with_reducible refine Below.alloc ?_ ?_ _; rotate_left; (focus (first | omega | (simp; done) | (simp; omega)))))); done)⟩
            · have hstep := any_next hb.out hE.out het (by omega)
              rw [errOf_no rfl hf] at hstep
              have hfb : (errOf et == 0) = false := by simpa using hf
              go_wp2
              go_roundg (gk - 1)
              case measure => omega
              case rel => exact ⟨i + 1, _, by go_num, by omega, rfl, hstep, (by (repeat (first | with_reducible exact hbS | with_reducible refine Below.drew ?_ | (with_reducible refine Below.setCell ?_ ?_ _; rotate_left; (focus (first | omega | (simp; done) | (simp; omega)))) | (with_reducible refine Below.alloc ?_ ?_ _; rotate_left; (focus (first | omega | (simp; done) | (simp; omega)))))); done)⟩
          · have hstep := any_next hb.out hE.out het (by omega)
            go_wp2
            go_roundg (gk - 1)
            case measure => omega
            case rel => exact ⟨i + 1, _, by go_num, by omega, rfl, hstep, (by (repeat (first | with_reducible exact hbS | with_reducible refine Below.drew ?_ | (with_reducible refine Below.setCell ?_ ?_ _; rotate_left; (focus (first | omega | (simp; done) | (simp; omega)))) | (with_reducible refine Below.alloc ?_ ?_ _; rotate_left; (focus (first | omega | (simp; done) | (simp; omega)))))); done)⟩
end Go.Proofs.YtlpcfbilembilaaDoor
