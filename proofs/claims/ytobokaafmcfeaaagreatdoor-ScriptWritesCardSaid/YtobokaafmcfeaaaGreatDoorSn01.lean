/- What the statement wants beyond its base. Conditions: none. -/
import Derived.Test.YtobokaafmcfeaaaGreatDoorSn00
import Derived.Deep.LoopGhost
namespace Go.Proofs.YtobokaafmcfeaaaGreatDoor
open Go.RowKit Go.Cal
theorem ByteArr_toNat {ch : UInt8} {k : UInt8} (h : ch.toNat = k.toNat) : k = ch := UInt8.toNat_inj.1 h.symm
section
variable {w0 w w' : World} {base g rb bx mb n c X p : Nat} {id wd : Int} {B : Option Addr} {E : Nat → Array Value → TypeId → Prop} {Ov : Value} {O : List Nat} {l : List UInt8}
theorem step_any (G : Geo w0 base g rb bx mb) (Y : Byt w0 B n c l) (hA : w0.heap.size ≤ base ∧ VaW w0 ∧ 1 ≤ id ∧ id ≤ 4 ∧ wd = fW id ∧ X < 2 ^ quS id ∧ O.length ≤ 1000) (hp : p < n) (h : StV w0 base g rb bx mb n c id wd B E Ov X O p w) :
    Calls Tryz.prog 99 #[(.pointer (some ⟨rb, 0, none⟩)), .map (some mb)] w fun e w' => e = .returned (.int .i64 ((stepP id X O (l.drop p)).err : Nat)) ∧ ∃ Ov', StV w0 base g rb bx mb n c id wd B E Ov' (stepP id X O (l.drop p)).X (stepP id X O (l.drop p)).O (p + (stepP id X O (l.drop p)).used) w' := by
  obtain ⟨ch, r, hd⟩ : ∃ ch r, l.drop p = ch :: r := by
    cases hd : l.drop p with
    | nil =>
      have := congrArg List.length hd
      rw [List.length_drop, Y.len, List.length_nil] at this
      omega
    | cons ch r => exact ⟨ch, r, rfl⟩
  have hc : ch.toNat = 0 ∨ ch.toNat = 1 ∨ ch.toNat = 2 ∨ ch.toNat = 3 ∨ ch.toNat = 4 ∨ ch.toNat = 5 ∨ 6 ≤ ch.toNat := by omega
  rcases hc with hc | hc | hc | hc | hc | hc | hc
  · exact stepq_clear G Y hA hp hd (ByteArr_toNat (by rw [hc]; rfl)) h
  · exact stepq_add G Y hA hp hd (ByteArr_toNat (by rw [hc]; rfl)) h
  · exact stepq_sub G Y hA hp hd (ByteArr_toNat (by rw [hc]; rfl)) h
  · exact stepq_neg G Y hA hp hd (ByteArr_toNat (by rw [hc]; rfl)) h
  · exact stepq_out G Y hA hp hd (ByteArr_toNat (by rw [hc]; rfl)) h
  · exact stepq_load G Y hA hp hd (ByteArr_toNat (by rw [hc]; rfl)) h
  · exact step_bad G Y hp hd hc h
end
/-- Where a run stands: j rounds are done. -/
def RunAt (id : Int) (l : List UInt8) (R : ScR) (ev j X : Nat) (O : List Nat) (p : Nat) : Prop :=
  R = if ev = 0 then ⟨(runP id (1000 - j) X O (l.drop p)).err, p + (runP id (1000 - j) X O (l.drop p)).used, (runP id (1000 - j) X O (l.drop p)).X, (runP id (1000 - j) X O (l.drop p)).O⟩ else ⟨ev, p, X, O⟩
section
variable {id : Int} {l : List UInt8} {R : ScR} {ev j X p : Nat} {O : List Nat}
theorem runAt_start : RunAt id l (runP id 1000 0 [] l) 0 0 0 [] 0 := by
  unfold RunAt
  rw [if_pos rfl, List.drop_zero, Nat.zero_add]
theorem RunAt.end (h : RunAt id l R 0 j X O p) (hp : l.length ≤ p) : R = ⟨0, p, X, O⟩ := by
  unfold RunAt at h
  rw [if_pos rfl, List.drop_of_length_le hp, runP_nil] at h
  exact h
theorem RunAt.bad (h : RunAt id l R ev j X O p) (he : ev ≠ 0) : R = ⟨ev, p, X, O⟩ := by
  unfold RunAt at h
  rw [if_neg he] at h
  exact h
theorem RunAt.full (h : RunAt id l R 0 1000 X O p) (hp : p < l.length) : R = ⟨6, p, X, O⟩ := by
  unfold RunAt at h
  rw [if_pos rfl] at h
  cases hd : l.drop p with
  | nil =>
    have := congrArg List.length hd
    rw [List.length_drop, List.length_nil] at this
    omega
  | cons c r =>
    rw [hd] at h
    exact h
theorem RunAt.step (h : RunAt id l R 0 j X O p) (hp : p < l.length) (hj : j < 1000) :
    RunAt id l R (stepP id X O (l.drop p)).err (j + 1) (stepP id X O (l.drop p)).X (stepP id X O (l.drop p)).O (p + (stepP id X O (l.drop p)).used) := by
  unfold RunAt at h ⊢
  rw [if_pos rfl] at h
  cases hd : l.drop p with
  | nil =>
    have := congrArg List.length hd
    rw [List.length_drop, List.length_nil] at this
    omega
  | cons c r =>
    rw [hd] at h
    obtain ⟨m, hm⟩ : ∃ m, 1000 - j = m + 1 := ⟨999 - j, by omega⟩
    rw [hm] at h
    rw [show 1000 - (j + 1) = m by omega]
    by_cases he : (stepP id X O (c :: r)).err = 0
    · rw [if_pos he, h, runP_ok (u := (stepP id X O (c :: r)).used) (X' := (stepP id X O (c :: r)).X) (O' := (stepP id X O (c :: r)).O) (by rw [← he]), ← List.drop_drop, hd]
      simp only
      rw [Nat.add_assoc]
    · obtain ⟨z1, z2, z3⟩ := step_err he
      rw [if_neg he, h, runP_no he, z1, z2, z3]
end
theorem res_size : (Tryz.prog.info? 57).map (·.size) = some 2 := by kernel_rfl
set_option maxRecDepth 100000 in
set_option maxHeartbeats 2000000 in
theorem run_form (id : Int) (h : id < 1 ∨ 4 < id) (v : Value) (w : World) (hW : VaW w) : Calls Tryz.prog 37 #[.int .i64 id, v] w fun e w' => e = .returned (.tuple #[.agg #[.slice none 0 0, .slice none 0 0], .int .i64 0, .int .i64 3]) ∧ Below w.heap.size w w' := by
  have hb0 := (Below.refl w.heap.size w).alloc (Nat.le_refl _) (.cells #[.slice none 0 0, .slice none 0 0] 57)
  have p0 := pBlk_made w #[.slice none 0 0, .slice none 0 0] 57
  have hof := Lib.hid fun (W : World) (hW : VaW W) => sof_no id h W hW
  clear h
  go_enter Tryz.func37, Tryz.ntmps37
  go_wp2_with fail
  refine (hof.out _ (hW.below hb0)).mono ?_
  rintro e w1 ⟨rfl, hb1⟩
  have p1 := pBlk_st _ _ _ _ _ p0 hb1
  have hB1 := hb0.trans (hb1.mono hb0.size)
  have hal := (Below.refl w1.heap.size w1).alloc (Nat.le_refl _) (.cells #[.int .i64 0, .int .i64 0, .int .i64 0, .int .i64 0, .int .u64 0, .int .u64 0, .int .u64 0] 67)
  have p2 := pBlk_st _ _ _ _ _ p1 hal
  have hB2 := hB1.trans (hal.mono hB1.size)
  clear p0 p1 hb1 hal hB1 hof hb0
  go_wp2_with (first | ((with_reducible show wpList _ _ _ (Oper.mk _ (Op.store 57 _ _) _ _ _ _ :: _) _ _); refine wpList_store_keep _ rfl 57 _ _ rfl w.heap.size #[.slice none 0 0, .slice none 0 0] #[.slice none 0 0, .slice none 0 0] 57 rfl rfl p2 res_size rfl (by simp [Value.oneCell']) (by simp) ?_; intro w9 hp9 hb9 hk9; have r0 := hp9.cell 0 _ rfl; have r1 := hp9.cell 1 _ rfl))
  exact bodyPost_ret (v := .tuple #[.agg #[.slice none 0 0, .slice none 0 0], .int .i64 0, .int .i64 3]) (by simp [results, Tryz.results37, go_sem, r0, r1]) rfl ⟨rfl, hB2.trans hb9⟩
/-- The bytes of a script, or none. -/
structure ByA (w0 : World) (B : Option Addr) (n c : Nat) (l : List UInt8) : Prop where
  len : l.length = n
  cap : n ≤ c
  capm : c ≤ maxLen
  few : n ≤ 1000000
  rd : RdB w0 w0.heap.size B l
theorem ByA.go {w0 : World} {B : Option Addr} {n c : Nat} {l : List UInt8} (Y : ByA w0 B n c l) (h : 0 < n) : Byt w0 B n c l :=
  ⟨fun e => by have := Y.len; rw [e, List.length_nil] at this; omega, Y.len, Y.cap, Y.capm, Y.few, Y.rd⟩
/-- What is told of a run. -/
def RunTells (w : World) (R : ScR) (e : Ending) (w' : World) : Prop :=
  ∃ (A1 A2 : Option Addr) (n1 c1 c2 : Nat), e = .returned (.tuple #[.agg #[.slice A1 n1 c1, .slice A2 R.O.length c2], .int .i64 (R.used : Nat), .int .i64 (R.err : Nat)]) ∧ IsT w' (.slice A1 n1 c1) 16 R.X ∧ R.O.length ≤ c2 ∧ RdU w' w'.heap.size A2 R.O ∧ Below w.heap.size w w'
theorem setRow_far {w : World} {g k : Nat} {cs : Array Value} (h : k ≠ g) : (w.setRow g cs).heap[k]? = w.heap[k]? := by
  simp [World.setRow, Array.getElem?_modify, Ne.symm h]
theorem own_read {w : World} {base : Nat} {v : Value} {xs : List Nat} (h : w.ownsRow base 22 1 v xs.length (lU xs)) : ∃ A c, v = .slice A xs.length c ∧ xs.length ≤ c ∧ RdU w w.heap.size A xs := by
  obtain ⟨_, ⟨rfl, h1⟩ | ⟨g, cap, cur, rfl, hg, hw, hn, hm, hs, ht⟩⟩ := h
  · obtain rfl := List.eq_nil_of_length_eq_zero h1
    exact ⟨none, 0, rfl, Nat.le_refl _, .nil⟩
  · have hlt := (Array.getElem?_eq_some_iff.1 hw).1
    refine ⟨_, cap, rfl, hn, ⟨.inr ⟨g, 0, rfl, hlt⟩, fun b off e j hj => ?_⟩⟩
    injection e with e
    injection e with e1 e2
    subst e1; subst e2
    have e3 : cur.toList[j]? = some (.int .u64 ((xs.getD j 0 : Nat) : Int)) := by
      rw [← lU_at xs j hj, ← ht, List.getElem?_take_of_lt (by omega)]
    simp [World.cell?, hw, ← Array.getElem?_toList, e3]
section
variable {w w' : World} {g rb p : Nat} {Ov : Value}
theorem keepRn (hS : (rb < (w).heap.size ∧ (w).cell? ⟨rb, 0, none⟩ = some (.pointer (some ⟨g, 0, none⟩)) ∧ (w).cell? ⟨rb, 3, none⟩ = some (.int .i64 (p : Nat)) ∧ (w).cell? ⟨rb, 4, none⟩ = some Ov)) (hb : Below w.heap.size w w') : (rb < (w').heap.size ∧ (w').cell? ⟨rb, 0, none⟩ = some (.pointer (some ⟨g, 0, none⟩)) ∧ (w').cell? ⟨rb, 3, none⟩ = some (.int .i64 (p : Nat)) ∧ (w').cell? ⟨rb, 4, none⟩ = some Ov) := by
  obtain ⟨h0, h1, h2, h3⟩ := hS
  exact ⟨Nat.lt_of_lt_of_le h0 hb.size, (hb.cell (p := ⟨rb, 0, none⟩) h0).trans h1, (hb.cell (p := ⟨rb, 3, none⟩) h0).trans h2, (hb.cell (p := ⟨rb, 4, none⟩) h0).trans h3⟩
end
set_option maxRecDepth 100000 in
set_option maxHeartbeats 4000000 in
theorem run_yes {id : Int} {B : Option Addr} {n c : Nat} {l : List UInt8} {w : World} (h1 : 1 ≤ id) (h4 : id ≤ 4) (hW : VaW w) (Y : ByA w B n c l) : Calls Tryz.prog 37 #[.int .i64 id, .slice B n c] w (RunTells w (runP id 1000 0 [] l)) := by
  obtain ⟨s0, hs0⟩ : ∃ s, w.heap.size = s := ⟨_, rfl⟩
  have hb0 := (Below.refl w.heap.size w).alloc (Nat.le_refl _) (.cells #[.slice none 0 0, .slice none 0 0] 57)
  have p0 := pBlk_made w #[.slice none 0 0, .slice none 0 0] 57
  have hof := Lib.hid fun (W : World) (hW : VaW W) => sof_yes id h1 h4 W hW
  have hnw := Lib.hid fun (W : World) (hW : VaW W) => new_q id h1 h4 W hW
  have hR0 := runAt_start (id := id) (l := l)
  obtain ⟨R, hR⟩ : ∃ R, runP id 1000 0 [] l = R := ⟨_, rfl⟩
  rw [hR] at hR0 ⊢
  clear hR
  replace hR0 := Lib.hid hR0
  have hX0 : 0 < 2 ^ quS id := Nat.two_pow_pos _
  replace hX0 := Lib.hid hX0
  go_enter Tryz.func37, Tryz.ntmps37
  go_wp2_with fail
  refine (hof.out _ (hW.below hb0)).mono ?_
  rintro e w1 ⟨rfl, hb1⟩
  have p1 := pBlk_st _ _ _ _ _ p0 hb1
  have hB1 := hb0.trans (hb1.mono hb0.size)
  have hal := (Below.refl w1.heap.size w1).alloc (Nat.le_refl _) (.cells #[.int .i64 (fK id), .int .i64 (fW id), .int .i64 (fM id), .int .i64 (fB id), .int .u64 (fT id), .int .u64 (fI id), .int .u64 (fN id)] 67)
  have p2 := pBlk_st _ _ _ _ _ p1 hal
  have q2 := pBlk_made w1 #[.int .i64 (fK id), .int .i64 (fW id), .int .i64 (fM id), .int .i64 (fB id), .int .u64 (fT id), .int .u64 (fI id), .int .u64 (fN id)] 67
  have hB2 := hB1.trans (hal.mono hB1.size)
  clear p0 p1 hb1 hal hB1 hof
  go_wp2_with fail
  refine (hnw.out _ (hW.below hB2)).mono ?_
  rintro e w3 ⟨g, rfl, hg, hq, hb3⟩
  have pF := pBlk_st _ _ _ _ _ q2 hb3
  have cF := pF.cell 1 _ rfl
  have hFl := pF.lt
  have p3 := pBlk_st _ _ _ _ _ p2 hb3
  have hB3 := hB2.trans (hb3.mono hB2.size)
  have hal4 := (Below.refl w3.heap.size w3).alloc (Nat.le_refl _) (.cells #[.pointer (some ⟨g, 0, none⟩), .int .i64 (fW id), .slice B n c, .int .i64 0, .slice none 0 0] 141)
  have pR := pBlk_made w3 #[.pointer (some ⟨g, 0, none⟩), .int .i64 (fW id), .slice B n c, .int .i64 0, .slice none 0 0] 141
  have p4 := pBlk_st _ _ _ _ _ p3 hal4
  have hB4 := hB3.trans (hal4.mono hB3.size)
  have hq4 := hq.below hal4
  have hgl : g < w3.heap.size := hq.lt
  have hsg : w.heap.size < g := Nat.lt_of_lt_of_le p2.lt hg
  have hd := Lib.hid (does_any pR)
  have hsz4 : (w3.alloc (.cells #[.pointer (some ⟨g, 0, none⟩), .int .i64 (fW id), .slice B n c, .int .i64 0, .slice none 0 0] 141)).heap.size = w3.heap.size + 1 := by simp
  clear pF p2 p3 hb3 q2 hnw hq hal4
  go_wp2_with fail
  refine hd.out.mono ?_
  rintro e w5 ⟨rfl, hbx, hfm, hb5⟩
  have hB5 := hB4.trans (hb5.mono hB4.size)
  have hbase := hfm.lt
  rw [hsz4] at hbx hfm hb5 hbase ⊢
  obtain ⟨rb, hrb⟩ : ∃ rb, w3.heap.size = rb := ⟨_, rfl⟩
  obtain ⟨base, hbs⟩ : ∃ base, w5.heap.size = base := ⟨_, rfl⟩
  have h03 : w.heap.size ≤ rb := by rw [← hrb]; exact hB3.size
  rw [hrb] at hbx hfm hgl pR hbase ⊢
  rw [hbs] at hbase
  have G : Geo w base g rb (rb + 1) (rb + 1 + 1) := ⟨Nat.le_trans hB2.size hg, h03, by omega, by omega, by omega, by omega, by omega, by omega, by omega, by omega, by omega, by omega, by omega⟩
  have hS5 : StV w base g rb (rb + 1) (rb + 1 + 1) n c id (fW id) B (fun k cs t => k = s0 ∧ cs = #[.slice none 0 0, .slice none 0 0] ∧ t = 57) (.slice none 0 0) 0 [] 0 w5 := by
    refine ⟨hB5, Nat.le_of_eq hbs.symm, pBlk_st _ _ _ _ _ pR (by rw [hsz4]; exact hb5), World.ownsRow_nil _ _ _ _, (hq4.below (by rw [hsz4]; exact hb5)).zero, hbx, hfm, ?_⟩
    rintro k cs t ⟨rfl, rfl, rfl⟩
    exact ⟨by rw [← hs0]; exact pBlk_st _ _ _ _ _ p4 (by rw [hsz4]; exact hb5), by omega, by omega, by simp [Value.ownBlock]⟩
  have hY := Lib.hid Y
  have hA : Hid (w.heap.size ≤ base ∧ VaW w) := ⟨Nat.le_of_lt (Nat.lt_trans hsg G.g1), hW⟩
  have hlen := Y.len
  replace hS5 := Lib.hid hS5
  replace hq4 := Lib.hid hq4
  clear hbx hfm hb5 hB5 hB4 hB3 hB2 pR p4 hq4 hd hgl hbase hbs hrb h03 hsz4 cF hFl hg Y hb0 hW hsg
  go_wp2_with fail
  go_loopg [8, 13] 1001 (fun m pe pn wr => ∃ (j X p ev : Nat) (O : List Nat) (Ov : Value), pe = .int .i64 (ev : Nat) ∧ pn = .int .i64 (j : Nat) ∧ j + m = 1001 ∧ j ≤ 1000 ∧ p ≤ n ∧ Hid (X < 2 ^ quS id) ∧ O.length ≤ j ∧ RunAt id l R ev j X O p ∧ Hid (StV w base g rb (rb + 1) (rb + 1 + 1) n c id (fW id) B (fun k cs t => k = s0 ∧ cs = #[.slice none 0 0, .slice none 0 0] ∧ t = 57) Ov X O p wr))
  case atStart => exact ⟨0, 0, 0, 0, [], _, rfl, rfl, rfl, by omega, by omega, hX0, by simp, hR0.out, hS5⟩
  case round =>
    obtain ⟨j, X, p, ev, O, Ov, rfl, rfl, hjm, hj, hp, hX, hO, hRun, hS⟩ := hrel
    clear hS5 hX0 hR0
    have c3 := hS.out.run.cell 3 _ rfl
    have hrl := hS.out.run.lt
    by_cases hpn : p < n
    · have d1 : decide ((p : Int) < (n : Int)) = true := decide_eq_true (by omega)
      have d2 : (p : Int) < (n : Int) := by omega
      by_cases hev : ev = 0
      · subst hev
        by_cases hj0 : j = 1000
        · subst hj0
          have hRf := hRun.full (by omega)
          obtain ⟨ev9, hev9⟩ : ∃ z : Int, (6 : Int) = z := ⟨_, rfl⟩
          have hR9 : Hid (R.X = X ∧ R.O = O ∧ R.used = p ∧ ((R.err : Nat) : Int) = 6) := by rw [hRf]; exact ⟨rfl, rfl, rfl, rfl⟩
          clear hRf hRun hev9 ev9
          all_goals
            obtain ⟨A2, c2, rfl, hlc, hrd⟩ := own_read hS.out.row
            have hbt := Lib.hid (bits_o (hS.out.go (Below.refl wr.heap.size wr).drew).qu)
            have hS0 : (rb < (wr.drew).heap.size ∧ (wr.drew).cell? ⟨rb, 0, none⟩ = some (.pointer (some ⟨g, 0, none⟩)) ∧ (wr.drew).cell? ⟨rb, 3, none⟩ = some (.int .i64 (p : Nat)) ∧ (wr.drew).cell? ⟨rb, 4, none⟩ = some (.slice A2 O.length c2)) := ⟨hS.out.run.lt, hS.out.run.cell 0 _ rfl, hS.out.run.cell 3 _ rfl, hS.out.run.cell 4 _ rfl⟩
            have pres := (hS.out.ext s0 _ _ ⟨rfl, rfl, rfl⟩).1
            have hrs : rb ≠ s0 := Ne.symm (hS.out.ext s0 _ _ ⟨rfl, rfl, rfl⟩).2.2.1
            have hBr := hS.out.below
            have hsr := hs0
            clear hs0
            go_wp2_with fail
            refine wp_region_held_drew (S := fun W => (rb < (W).heap.size ∧ (W).cell? ⟨rb, 0, none⟩ = some (.pointer (some ⟨g, 0, none⟩)) ∧ (W).cell? ⟨rb, 3, none⟩ = some (.int .i64 (p : Nat)) ∧ (W).cell? ⟨rb, 4, none⟩ = some (.slice A2 O.length c2))) (by kernel_rfl) hS0 (fun hS => ?_)
            (refine wpAnyH_take (i := 0) (v := ?_) rfl (by kernel_rfl) (by kernel_rfl) (by kernel_rfl) (fun _ _ _ h => h) (Or.inl ⟨by rfl, ?_⟩) hS ?_; rotate_left; (focus ((intro W9 hSW; obtain ⟨hs1, hs2, hs3, hs4⟩ := hSW; go_simp) <;> with_reducible rfl)))
            (refine wpAnyH_take (i := 1) (v := ?_) rfl (by kernel_rfl) (by kernel_rfl) (by kernel_rfl) (fun _ _ _ h => h) (Or.inl ⟨by rfl, ?_⟩) hS ?_; rotate_left; (focus ((intro W9 hSW; obtain ⟨hs1, hs2, hs3, hs4⟩ := hSW; go_simp) <;> with_reducible rfl)))
            (refine wpAnyH_take (i := 2) (v := ?_) rfl (by kernel_rfl) (by kernel_rfl) (by kernel_rfl) (fun _ _ _ h => h) (Or.inl ⟨by rfl, ?_⟩) hS ?_; rotate_left; (focus ((intro W9 hSW; obtain ⟨hs1, hs2, hs3, hs4⟩ := hSW; go_simp) <;> with_reducible rfl)))
            (refine wpAnyH_take (i := 3) (v := ?_) rfl (by kernel_rfl) (by kernel_rfl) (by kernel_rfl) (fun _ _ _ h => h) (Or.inl ⟨by rfl, ?_⟩) hS ?_; rotate_left; (focus ((intro W9 hSW; obtain ⟨hs1, hs2, hs3, hs4⟩ := hSW; go_simp) <;> with_reducible rfl)))
            (refine wpAnyH_take (i := 5) (v := ?_) rfl (by kernel_rfl) (by kernel_rfl) (by kernel_rfl) (fun _ _ _ h => h) (Or.inl ⟨by rfl, ?_⟩) hS ?_; rotate_left; (focus ((intro W9 hSW; obtain ⟨hs1, hs2, hs3, hs4⟩ := hSW; go_simp) <;> with_reducible rfl)))
            (refine wpAnyH_take (i := 6) (v := ?_) rfl (by kernel_rfl) (by kernel_rfl) (by kernel_rfl) (fun _ _ _ h => h) (Or.inl ⟨by rfl, ?_⟩) hS ?_; rotate_left; (focus ((intro W9 hSW; obtain ⟨hs1, hs2, hs3, hs4⟩ := hSW; go_simp) <;> with_reducible rfl)))
            (refine wpAnyH_take (i := 7) (v := ?_) rfl (by kernel_rfl) (by kernel_rfl) (by kernel_rfl) (fun _ _ _ h => h) (Or.inl ⟨by rfl, ?_⟩) hS ?_; rotate_left; (focus ((intro W9 hSW; obtain ⟨hs1, hs2, hs3, hs4⟩ := hSW; go_simp) <;> with_reducible rfl)))
            (refine wpAnyH_take (i := 8) (v := ?_) rfl (by kernel_rfl) (by kernel_rfl) (by kernel_rfl) (fun _ _ _ h => h) (Or.inl ⟨by rfl, ?_⟩) hS ?_; rotate_left; (focus ((intro W9 hSW; obtain ⟨hs1, hs2, hs3, hs4⟩ := hSW; go_simp) <;> with_reducible rfl)))
            (refine wpAnyH_take (i := 10) (v := ?_) rfl (by kernel_rfl) (by kernel_rfl) (by kernel_rfl) (fun _ _ _ h => h) (Or.inl ⟨by rfl, ?_⟩) hS ?_; rotate_left; (focus ((intro W9 hSW; obtain ⟨hs1, hs2, hs3, hs4⟩ := hSW; go_simp) <;> with_reducible rfl)))
            (refine wpAnyH_take (i := 11) (v := ?_) rfl (by kernel_rfl) (by kernel_rfl) (by kernel_rfl) (fun _ _ _ h => h) (Or.inl ⟨by rfl, ?_⟩) hS ?_; rotate_left; (focus ((intro W9 hSW; obtain ⟨hs1, hs2, hs3, hs4⟩ := hSW; go_simp) <;> with_reducible rfl)))
            (refine wpAnyH_take (i := 12) (v := ?_) rfl (by kernel_rfl) (by kernel_rfl) (by kernel_rfl) (fun _ _ _ h => h) (Or.inl ⟨by rfl, ?_⟩) hS ?_; rotate_left; (focus ((intro W9 hSW; obtain ⟨hs1, hs2, hs3, hs4⟩ := hSW; go_simp) <;> with_reducible rfl)))
            (refine wpAnyH_take (i := 13) (v := ?_) rfl (by kernel_rfl) (by kernel_rfl) (by kernel_rfl) (fun _ _ _ h => h) (Or.inl ⟨by rfl, ?_⟩) hS ?_; rotate_left; (focus ((intro W9 hSW; obtain ⟨hs1, hs2, hs3, hs4⟩ := hSW; go_simp) <;> with_reducible rfl)))
            (refine wpAnyH_take (i := 14) (v := ?_) rfl (by kernel_rfl) (by kernel_rfl) (by kernel_rfl) (fun _ _ _ h => h) (Or.inl ⟨by rfl, ?_⟩) hS ?_; rotate_left; (focus ((intro W9 hSW; obtain ⟨hs1, hs2, hs3, hs4⟩ := hSW; go_simp) <;> with_reducible rfl)))
            (refine wpAnyH_ready (rs := [4]) (by kernel_rfl) (by simp) ?_; refine AllReadyH.cons rfl (fun K hK => ?_) AllReadyH.nil)
            go_simp
            go_at_call 39
            refine Calls.mono hbt.out ?_
            rintro e w6 ⟨A', n', c', rfl, hv, hf, hb6⟩
            refine hK.out _ _ (keepRn hS0 hb6) (fun hS => ?_)
            (refine wpAnyH_take (i := 9) (v := ?_) rfl (by kernel_rfl) (by kernel_rfl) (by kernel_rfl) (fun _ _ _ h => h) (Or.inl ⟨by rfl, ?_⟩) hS ?_; rotate_left; (focus ((intro W9 hSW; obtain ⟨hs1, hs2, hs3, hs4⟩ := hSW; go_simp) <;> with_reducible rfl)))
            (refine wpAnyH_ready (rs := [15]) (by kernel_rfl) (by simp) ?_; refine AllReadyH.cons rfl (fun K hK => ?_) AllReadyH.nil)
            have pres6 : pBlk s0 #[.slice none 0 0, .slice none 0 0] 57 w6 := pBlk_st _ _ _ _ _ pres ((show Below wr.heap.size wr wr.drew from (Below.refl _ _).drew).trans hb6)
            rw [if_pos (by rfl)]
            refine wp_store_row 57 (.tmp 4) (.tmp 63) rfl s0 #[.slice A' n' c', .slice A2 O.length c2] rfl rfl 57 #[.slice none 0 0, .slice none 0 0] pres6 res_size rfl (by simp [Value.oneCell']) ?_
            have hrr := setRow_far (w := w6) (cs := #[.slice A' n' c', .slice A2 O.length c2]) hrs
            have hss : (w6.setRow s0 #[.slice A' n' c', .slice A2 O.length c2]).heap.size = w6.heap.size := by simp [World.setRow]
            have hS7 : (rb < ((w6.setRow s0 #[.slice A' n' c', .slice A2 O.length c2])).heap.size ∧ ((w6.setRow s0 #[.slice A' n' c', .slice A2 O.length c2])).cell? ⟨rb, 0, none⟩ = some (.pointer (some ⟨g, 0, none⟩)) ∧ ((w6.setRow s0 #[.slice A' n' c', .slice A2 O.length c2])).cell? ⟨rb, 3, none⟩ = some (.int .i64 (p : Nat)) ∧ ((w6.setRow s0 #[.slice A' n' c', .slice A2 O.length c2])).cell? ⟨rb, 4, none⟩ = some (.slice A2 O.length c2)) := ⟨by rw [hss]; exact hS.1, (World.cell?_of_block (a := ⟨rb, 0, none⟩) hrr).trans hS.2.1, (World.cell?_of_block (a := ⟨rb, 3, none⟩) hrr).trans hS.2.2.1, (World.cell?_of_block (a := ⟨rb, 4, none⟩) hrr).trans hS.2.2.2⟩
            have p7 : pBlk s0 #[.slice A' n' c', .slice A2 O.length c2] 57 (w6.setRow s0 #[.slice A' n' c', .slice A2 O.length c2]) := setRow_heap w6 s0 _ _ _ _ pres6
            have r0 := p7.cell 0 _ rfl
            have r1 := p7.cell 1 _ rfl
            have hv7 := hv.setRow (cs := #[.slice A' n' c', .slice A2 O.length c2]) pres6 (by simp)
            have hrd7 : RdU (w6.setRow s0 #[.slice A' n' c', .slice A2 O.length c2]) (w6.setRow s0 #[.slice A' n' c', .slice A2 O.length c2]).heap.size A2 O := by
              refine ⟨?_, fun b off e i hi => ?_⟩
              · rw [hss]
                exact hrd.place.imp (fun h => h) fun ⟨b, off, e, h⟩ => ⟨b, off, e, Nat.lt_of_lt_of_le h hb6.size⟩
              · have hc := hrd.cells b off e i hi
                have hbl := cell_lt hc
                have hbs0 : b ≠ s0 := fun e9 => by
                  subst e9
                  have hpc := hc
                  have : ∀ k u, wr.cell? ⟨b, k, none⟩ = some u → ∀ y, u ≠ .int .u64 y := fun k u hk y hy => by
                    subst hy
                    unfold pBlk at pres
                    simp [World.cell?, pres] at hk
                    rcases k with _ | _ | k <;> simp at hk
                  exact this _ _ hc _ rfl
                rw [World.cell?_of_block (a := ⟨b, off + i, none⟩) (setRow_far hbs0), hb6.cell (p := ⟨b, off + i, none⟩) hbl]
                exact hc
            have hBf : Below w.heap.size w (w6.setRow s0 #[.slice A' n' c', .slice A2 O.length c2]) := below_setRow (hBr.trans (((show Below wr.heap.size wr wr.drew from (Below.refl _ _).drew).trans hb6).mono hBr.size)) (Nat.le_of_eq hsr) _
            clear hss hrr hrs hbt hb6 hv hf pres pres6 hrd hBr p7
            refine hK.out _ _ hS7 (fun hS => ?_)
            (refine wpAnyH_take (i := 16) (v := ?_) rfl (by kernel_rfl) (by kernel_rfl) (by kernel_rfl) (fun _ _ _ h => h) (Or.inl ⟨by rfl, ?_⟩) hS ?_; rotate_left; (focus ((intro W9 hSW; obtain ⟨hs1, hs2, hs3, hs4⟩ := hSW; go_simp) <;> with_reducible rfl)))
            (refine wpAnyH_take (i := 17) (v := ?_) rfl (by kernel_rfl) (by kernel_rfl) (by kernel_rfl) (fun _ _ _ h => h) (Or.inl ⟨by rfl, ?_⟩) hS ?_; rotate_left; (focus ((intro W9 hSW; obtain ⟨hs1, hs2, hs3, hs4⟩ := hSW; go_simp) <;> with_reducible rfl)))
            refine wpAnyH_done (by kernel_rfl) ?_ _
            go_wp2
            refine bodyPost_ret (v := .tuple #[.agg #[.slice A' n' c', .slice A2 O.length c2], .int .i64 (p : Nat), .int .i64 6]) (by simp [results, Tryz.results37, go_sem, r0, r1]) rfl ?_
            obtain ⟨z1, z2, z3, z4⟩ := hR9.out
            exact ⟨A', A2, n', c', c2, by rw [z2, z3, z4], by rw [z1]; exact hv7, by rw [z2]; exact hlc, by rw [z2]; exact hrd7, hBf⟩
        · have d3 : (((j : Nat) : Int) == 1000) = false := by rw [beq_eq_false_iff_ne]; omega
          have hst := Lib.hid (step_any G (hY.out.go (by omega)) ⟨hA.out.1, hA.out.2, h1, h4, rfl, hX.out, by omega⟩ hpn hS.out)
          have hRs := Lib.hid (hRun.step (by omega) (by omega))
          have hXs := step_lt h1 h4 (O := O) (l := l.drop p) hX.out
          obtain ⟨m9, hm9, hml⟩ := step_outs id X O (l.drop p)
          have hus : p + (stepP id X O (l.drop p)).used ≤ n := by
            by_cases he : (stepP id X O (l.drop p)).err = 0
            · have := (step_used he).2
              rw [List.length_drop] at this
              omega
            · rw [(step_err he).1]; omega
          have hOs : (stepP id X O (l.drop p)).O.length ≤ j + 1 := by rw [hm9, List.length_append]; omega
          replace hXs := Lib.hid hXs
          generalize stepP id X O (l.drop p) = Q at hst hRs hXs hus hOs
          clear hm9 hml m9 hRun hS hX
          go_wp2_with fail
          refine hst.out.mono ?_
          rintro e w6 ⟨rfl, Ov', hS6⟩
          replace hS6 := Lib.hid hS6
          go_wp2
          go_roundg (gk - 1)
          case measure => omega
          case rel => exact ⟨j + 1, Q.X, _, Q.err, Q.O, Ov', rfl, by simp, by omega, by omega, hus, hXs, hOs, hRs.out, hS6⟩
      · have hRf := hRun.bad hev
        have d3 : (((ev : Nat) : Int) == 0) = false := by rw [beq_eq_false_iff_ne]; omega
        obtain ⟨ev9, hev9⟩ : ∃ z : Int, ((ev : Nat) : Int) = z := ⟨_, rfl⟩
        rw [hev9] at d3 ⊢
        have hR9 : Hid (R.X = X ∧ R.O = O ∧ R.used = p ∧ ((R.err : Nat) : Int) = ev9) := by rw [hRf]; exact ⟨rfl, rfl, rfl, hev9⟩
        clear hRf hRun hev hev9
        obtain ⟨A2, c2, rfl, hlc, hrd⟩ := own_read hS.out.row
        have hbt := Lib.hid (bits_o (hS.out.go (Below.refl wr.heap.size wr).drew).qu)
        have hS0 : (rb < (wr.drew).heap.size ∧ (wr.drew).cell? ⟨rb, 0, none⟩ = some (.pointer (some ⟨g, 0, none⟩)) ∧ (wr.drew).cell? ⟨rb, 3, none⟩ = some (.int .i64 (p : Nat)) ∧ (wr.drew).cell? ⟨rb, 4, none⟩ = some (.slice A2 O.length c2)) := ⟨hS.out.run.lt, hS.out.run.cell 0 _ rfl, hS.out.run.cell 3 _ rfl, hS.out.run.cell 4 _ rfl⟩
        have pres := (hS.out.ext s0 _ _ ⟨rfl, rfl, rfl⟩).1
        have hrs : rb ≠ s0 := Ne.symm (hS.out.ext s0 _ _ ⟨rfl, rfl, rfl⟩).2.2.1
        have hBr := hS.out.below
        have hsr := hs0
        clear hs0
        go_wp2_with fail
        refine wp_region_held_drew (S := fun W => (rb < (W).heap.size ∧ (W).cell? ⟨rb, 0, none⟩ = some (.pointer (some ⟨g, 0, none⟩)) ∧ (W).cell? ⟨rb, 3, none⟩ = some (.int .i64 (p : Nat)) ∧ (W).cell? ⟨rb, 4, none⟩ = some (.slice A2 O.length c2))) (by kernel_rfl) hS0 (fun hS => ?_)
        (refine wpAnyH_take (i := 0) (v := ?_) rfl (by kernel_rfl) (by kernel_rfl) (by kernel_rfl) (fun _ _ _ h => h) (Or.inl ⟨by rfl, ?_⟩) hS ?_; rotate_left; (focus ((intro W9 hSW; obtain ⟨hs1, hs2, hs3, hs4⟩ := hSW; go_simp) <;> with_reducible rfl)))
        (refine wpAnyH_take (i := 1) (v := ?_) rfl (by kernel_rfl) (by kernel_rfl) (by kernel_rfl) (fun _ _ _ h => h) (Or.inl ⟨by rfl, ?_⟩) hS ?_; rotate_left; (focus ((intro W9 hSW; obtain ⟨hs1, hs2, hs3, hs4⟩ := hSW; go_simp) <;> with_reducible rfl)))
        (refine wpAnyH_take (i := 2) (v := ?_) rfl (by kernel_rfl) (by kernel_rfl) (by kernel_rfl) (fun _ _ _ h => h) (Or.inl ⟨by rfl, ?_⟩) hS ?_; rotate_left; (focus ((intro W9 hSW; obtain ⟨hs1, hs2, hs3, hs4⟩ := hSW; go_simp) <;> with_reducible rfl)))
        (refine wpAnyH_take (i := 3) (v := ?_) rfl (by kernel_rfl) (by kernel_rfl) (by kernel_rfl) (fun _ _ _ h => h) (Or.inl ⟨by rfl, ?_⟩) hS ?_; rotate_left; (focus ((intro W9 hSW; obtain ⟨hs1, hs2, hs3, hs4⟩ := hSW; go_simp) <;> with_reducible rfl)))
        (refine wpAnyH_take (i := 5) (v := ?_) rfl (by kernel_rfl) (by kernel_rfl) (by kernel_rfl) (fun _ _ _ h => h) (Or.inl ⟨by rfl, ?_⟩) hS ?_; rotate_left; (focus ((intro W9 hSW; obtain ⟨hs1, hs2, hs3, hs4⟩ := hSW; go_simp) <;> with_reducible rfl)))
        (refine wpAnyH_take (i := 6) (v := ?_) rfl (by kernel_rfl) (by kernel_rfl) (by kernel_rfl) (fun _ _ _ h => h) (Or.inl ⟨by rfl, ?_⟩) hS ?_; rotate_left; (focus ((intro W9 hSW; obtain ⟨hs1, hs2, hs3, hs4⟩ := hSW; go_simp) <;> with_reducible rfl)))
        (refine wpAnyH_take (i := 7) (v := ?_) rfl (by kernel_rfl) (by kernel_rfl) (by kernel_rfl) (fun _ _ _ h => h) (Or.inl ⟨by rfl, ?_⟩) hS ?_; rotate_left; (focus ((intro W9 hSW; obtain ⟨hs1, hs2, hs3, hs4⟩ := hSW; go_simp) <;> with_reducible rfl)))
        (refine wpAnyH_take (i := 8) (v := ?_) rfl (by kernel_rfl) (by kernel_rfl) (by kernel_rfl) (fun _ _ _ h => h) (Or.inl ⟨by rfl, ?_⟩) hS ?_; rotate_left; (focus ((intro W9 hSW; obtain ⟨hs1, hs2, hs3, hs4⟩ := hSW; go_simp) <;> with_reducible rfl)))
        (refine wpAnyH_take (i := 10) (v := ?_) rfl (by kernel_rfl) (by kernel_rfl) (by kernel_rfl) (fun _ _ _ h => h) (Or.inl ⟨by rfl, ?_⟩) hS ?_; rotate_left; (focus ((intro W9 hSW; obtain ⟨hs1, hs2, hs3, hs4⟩ := hSW; go_simp) <;> with_reducible rfl)))
        (refine wpAnyH_take (i := 11) (v := ?_) rfl (by kernel_rfl) (by kernel_rfl) (by kernel_rfl) (fun _ _ _ h => h) (Or.inl ⟨by rfl, ?_⟩) hS ?_; rotate_left; (focus ((intro W9 hSW; obtain ⟨hs1, hs2, hs3, hs4⟩ := hSW; go_simp) <;> with_reducible rfl)))
        (refine wpAnyH_take (i := 12) (v := ?_) rfl (by kernel_rfl) (by kernel_rfl) (by kernel_rfl) (fun _ _ _ h => h) (Or.inl ⟨by rfl, ?_⟩) hS ?_; rotate_left; (focus ((intro W9 hSW; obtain ⟨hs1, hs2, hs3, hs4⟩ := hSW; go_simp) <;> with_reducible rfl)))
        (refine wpAnyH_take (i := 13) (v := ?_) rfl (by kernel_rfl) (by kernel_rfl) (by kernel_rfl) (fun _ _ _ h => h) (Or.inl ⟨by rfl, ?_⟩) hS ?_; rotate_left; (focus ((intro W9 hSW; obtain ⟨hs1, hs2, hs3, hs4⟩ := hSW; go_simp) <;> with_reducible rfl)))
        (refine wpAnyH_take (i := 14) (v := ?_) rfl (by kernel_rfl) (by kernel_rfl) (by kernel_rfl) (fun _ _ _ h => h) (Or.inl ⟨by rfl, ?_⟩) hS ?_; rotate_left; (focus ((intro W9 hSW; obtain ⟨hs1, hs2, hs3, hs4⟩ := hSW; go_simp) <;> with_reducible rfl)))
        (refine wpAnyH_ready (rs := [4]) (by kernel_rfl) (by simp) ?_; refine AllReadyH.cons rfl (fun K hK => ?_) AllReadyH.nil)
        go_simp
        go_at_call 39
        refine Calls.mono hbt.out ?_
        rintro e w6 ⟨A', n', c', rfl, hv, hf, hb6⟩
        refine hK.out _ _ (keepRn hS0 hb6) (fun hS => ?_)
        (refine wpAnyH_take (i := 9) (v := ?_) rfl (by kernel_rfl) (by kernel_rfl) (by kernel_rfl) (fun _ _ _ h => h) (Or.inl ⟨by rfl, ?_⟩) hS ?_; rotate_left; (focus ((intro W9 hSW; obtain ⟨hs1, hs2, hs3, hs4⟩ := hSW; go_simp) <;> with_reducible rfl)))
        (refine wpAnyH_ready (rs := [15]) (by kernel_rfl) (by simp) ?_; refine AllReadyH.cons rfl (fun K hK => ?_) AllReadyH.nil)
        have pres6 : pBlk s0 #[.slice none 0 0, .slice none 0 0] 57 w6 := pBlk_st _ _ _ _ _ pres ((show Below wr.heap.size wr wr.drew from (Below.refl _ _).drew).trans hb6)
        rw [if_pos (by rfl)]
        refine wp_store_row 57 (.tmp 4) (.tmp 63) rfl s0 #[.slice A' n' c', .slice A2 O.length c2] rfl rfl 57 #[.slice none 0 0, .slice none 0 0] pres6 res_size rfl (by simp [Value.oneCell']) ?_
        have hrr := setRow_far (w := w6) (cs := #[.slice A' n' c', .slice A2 O.length c2]) hrs
        have hss : (w6.setRow s0 #[.slice A' n' c', .slice A2 O.length c2]).heap.size = w6.heap.size := by simp [World.setRow]
        have hS7 : (rb < ((w6.setRow s0 #[.slice A' n' c', .slice A2 O.length c2])).heap.size ∧ ((w6.setRow s0 #[.slice A' n' c', .slice A2 O.length c2])).cell? ⟨rb, 0, none⟩ = some (.pointer (some ⟨g, 0, none⟩)) ∧ ((w6.setRow s0 #[.slice A' n' c', .slice A2 O.length c2])).cell? ⟨rb, 3, none⟩ = some (.int .i64 (p : Nat)) ∧ ((w6.setRow s0 #[.slice A' n' c', .slice A2 O.length c2])).cell? ⟨rb, 4, none⟩ = some (.slice A2 O.length c2)) := ⟨by rw [hss]; exact hS.1, (World.cell?_of_block (a := ⟨rb, 0, none⟩) hrr).trans hS.2.1, (World.cell?_of_block (a := ⟨rb, 3, none⟩) hrr).trans hS.2.2.1, (World.cell?_of_block (a := ⟨rb, 4, none⟩) hrr).trans hS.2.2.2⟩
        have p7 : pBlk s0 #[.slice A' n' c', .slice A2 O.length c2] 57 (w6.setRow s0 #[.slice A' n' c', .slice A2 O.length c2]) := setRow_heap w6 s0 _ _ _ _ pres6
        have r0 := p7.cell 0 _ rfl
        have r1 := p7.cell 1 _ rfl
        have hv7 := hv.setRow (cs := #[.slice A' n' c', .slice A2 O.length c2]) pres6 (by simp)
        have hrd7 : RdU (w6.setRow s0 #[.slice A' n' c', .slice A2 O.length c2]) (w6.setRow s0 #[.slice A' n' c', .slice A2 O.length c2]).heap.size A2 O := by
          refine ⟨?_, fun b off e i hi => ?_⟩
          · rw [hss]
            exact hrd.place.imp (fun h => h) fun ⟨b, off, e, h⟩ => ⟨b, off, e, Nat.lt_of_lt_of_le h hb6.size⟩
          · have hc := hrd.cells b off e i hi
            have hbl := cell_lt hc
            have hbs0 : b ≠ s0 := fun e9 => by
              subst e9
              have hpc := hc
              have : ∀ k u, wr.cell? ⟨b, k, none⟩ = some u → ∀ y, u ≠ .int .u64 y := fun k u hk y hy => by
                subst hy
                unfold pBlk at pres
                simp [World.cell?, pres] at hk
                rcases k with _ | _ | k <;> simp at hk
              exact this _ _ hc _ rfl
            rw [World.cell?_of_block (a := ⟨b, off + i, none⟩) (setRow_far hbs0), hb6.cell (p := ⟨b, off + i, none⟩) hbl]
            exact hc
        have hBf : Below w.heap.size w (w6.setRow s0 #[.slice A' n' c', .slice A2 O.length c2]) := below_setRow (hBr.trans (((show Below wr.heap.size wr wr.drew from (Below.refl _ _).drew).trans hb6).mono hBr.size)) (Nat.le_of_eq hsr) _
        clear hss hrr hrs hbt hb6 hv hf pres pres6 hrd hBr p7
        refine hK.out _ _ hS7 (fun hS => ?_)
        (refine wpAnyH_take (i := 16) (v := ?_) rfl (by kernel_rfl) (by kernel_rfl) (by kernel_rfl) (fun _ _ _ h => h) (Or.inl ⟨by rfl, ?_⟩) hS ?_; rotate_left; (focus ((intro W9 hSW; obtain ⟨hs1, hs2, hs3, hs4⟩ := hSW; go_simp) <;> with_reducible rfl)))
        (refine wpAnyH_take (i := 17) (v := ?_) rfl (by kernel_rfl) (by kernel_rfl) (by kernel_rfl) (fun _ _ _ h => h) (Or.inl ⟨by rfl, ?_⟩) hS ?_; rotate_left; (focus ((intro W9 hSW; obtain ⟨hs1, hs2, hs3, hs4⟩ := hSW; go_simp) <;> with_reducible rfl)))
        refine wpAnyH_done (by kernel_rfl) ?_ _
        go_wp2
        refine bodyPost_ret (v := .tuple #[.agg #[.slice A' n' c', .slice A2 O.length c2], .int .i64 (p : Nat), .int .i64 ev9]) (by simp [results, Tryz.results37, go_sem, r0, r1]) rfl ?_
        obtain ⟨z1, z2, z3, z4⟩ := hR9.out
        exact ⟨A', A2, n', c', c2, by rw [z2, z3, z4], by rw [z1]; exact hv7, by rw [z2]; exact hlc, by rw [z2]; exact hrd7, hBf⟩
    · have hev0 : ev = 0 ∨ ev ≠ 0 := by omega
      have hRf : R = ⟨ev, p, X, O⟩ := by
        by_cases hev : ev = 0
        · subst hev
          exact hRun.end (by omega)
        · exact hRun.bad hev
      have d1 : decide ((p : Int) < (n : Int)) = false := decide_eq_false (by omega)
      have d2 : ¬ (p : Int) < (n : Int) := by omega
      obtain ⟨ev9, hev9⟩ : ∃ z : Int, ((ev : Nat) : Int) = z := ⟨_, rfl⟩
      rw [hev9]
      have hR9 : Hid (R.X = X ∧ R.O = O ∧ R.used = p ∧ ((R.err : Nat) : Int) = ev9) := by rw [hRf]; exact ⟨rfl, rfl, rfl, hev9⟩
      clear hRf hRun hev0 hev9
      all_goals
        obtain ⟨A2, c2, rfl, hlc, hrd⟩ := own_read hS.out.row
        have hbt := Lib.hid (bits_o (hS.out.go (Below.refl wr.heap.size wr).drew).qu)
        have hS0 : (rb < (wr.drew).heap.size ∧ (wr.drew).cell? ⟨rb, 0, none⟩ = some (.pointer (some ⟨g, 0, none⟩)) ∧ (wr.drew).cell? ⟨rb, 3, none⟩ = some (.int .i64 (p : Nat)) ∧ (wr.drew).cell? ⟨rb, 4, none⟩ = some (.slice A2 O.length c2)) := ⟨hS.out.run.lt, hS.out.run.cell 0 _ rfl, hS.out.run.cell 3 _ rfl, hS.out.run.cell 4 _ rfl⟩
        have pres := (hS.out.ext s0 _ _ ⟨rfl, rfl, rfl⟩).1
        have hrs : rb ≠ s0 := Ne.symm (hS.out.ext s0 _ _ ⟨rfl, rfl, rfl⟩).2.2.1
        have hBr := hS.out.below
        have hsr := hs0
        clear hs0
        go_wp2_with fail
        refine wp_region_held_drew (S := fun W => (rb < (W).heap.size ∧ (W).cell? ⟨rb, 0, none⟩ = some (.pointer (some ⟨g, 0, none⟩)) ∧ (W).cell? ⟨rb, 3, none⟩ = some (.int .i64 (p : Nat)) ∧ (W).cell? ⟨rb, 4, none⟩ = some (.slice A2 O.length c2))) (by kernel_rfl) hS0 (fun hS => ?_)
        (refine wpAnyH_take (i := 0) (v := ?_) rfl (by kernel_rfl) (by kernel_rfl) (by kernel_rfl) (fun _ _ _ h => h) (Or.inl ⟨by rfl, ?_⟩) hS ?_; rotate_left; (focus ((intro W9 hSW; obtain ⟨hs1, hs2, hs3, hs4⟩ := hSW; go_simp) <;> with_reducible rfl)))
        (refine wpAnyH_take (i := 1) (v := ?_) rfl (by kernel_rfl) (by kernel_rfl) (by kernel_rfl) (fun _ _ _ h => h) (Or.inl ⟨by rfl, ?_⟩) hS ?_; rotate_left; (focus ((intro W9 hSW; obtain ⟨hs1, hs2, hs3, hs4⟩ := hSW; go_simp) <;> with_reducible rfl)))
        (refine wpAnyH_take (i := 2) (v := ?_) rfl (by kernel_rfl) (by kernel_rfl) (by kernel_rfl) (fun _ _ _ h => h) (Or.inl ⟨by rfl, ?_⟩) hS ?_; rotate_left; (focus ((intro W9 hSW; obtain ⟨hs1, hs2, hs3, hs4⟩ := hSW; go_simp) <;> with_reducible rfl)))
        (refine wpAnyH_take (i := 3) (v := ?_) rfl (by kernel_rfl) (by kernel_rfl) (by kernel_rfl) (fun _ _ _ h => h) (Or.inl ⟨by rfl, ?_⟩) hS ?_; rotate_left; (focus ((intro W9 hSW; obtain ⟨hs1, hs2, hs3, hs4⟩ := hSW; go_simp) <;> with_reducible rfl)))
        (refine wpAnyH_take (i := 5) (v := ?_) rfl (by kernel_rfl) (by kernel_rfl) (by kernel_rfl) (fun _ _ _ h => h) (Or.inl ⟨by rfl, ?_⟩) hS ?_; rotate_left; (focus ((intro W9 hSW; obtain ⟨hs1, hs2, hs3, hs4⟩ := hSW; go_simp) <;> with_reducible rfl)))
        (refine wpAnyH_take (i := 6) (v := ?_) rfl (by kernel_rfl) (by kernel_rfl) (by kernel_rfl) (fun _ _ _ h => h) (Or.inl ⟨by rfl, ?_⟩) hS ?_; rotate_left; (focus ((intro W9 hSW; obtain ⟨hs1, hs2, hs3, hs4⟩ := hSW; go_simp) <;> with_reducible rfl)))
        (refine wpAnyH_take (i := 7) (v := ?_) rfl (by kernel_rfl) (by kernel_rfl) (by kernel_rfl) (fun _ _ _ h => h) (Or.inl ⟨by rfl, ?_⟩) hS ?_; rotate_left; (focus ((intro W9 hSW; obtain ⟨hs1, hs2, hs3, hs4⟩ := hSW; go_simp) <;> with_reducible rfl)))
        (refine wpAnyH_take (i := 8) (v := ?_) rfl (by kernel_rfl) (by kernel_rfl) (by kernel_rfl) (fun _ _ _ h => h) (Or.inl ⟨by rfl, ?_⟩) hS ?_; rotate_left; (focus ((intro W9 hSW; obtain ⟨hs1, hs2, hs3, hs4⟩ := hSW; go_simp) <;> with_reducible rfl)))
        (refine wpAnyH_take (i := 10) (v := ?_) rfl (by kernel_rfl) (by kernel_rfl) (by kernel_rfl) (fun _ _ _ h => h) (Or.inl ⟨by rfl, ?_⟩) hS ?_; rotate_left; (focus ((intro W9 hSW; obtain ⟨hs1, hs2, hs3, hs4⟩ := hSW; go_simp) <;> with_reducible rfl)))
        (refine wpAnyH_take (i := 11) (v := ?_) rfl (by kernel_rfl) (by kernel_rfl) (by kernel_rfl) (fun _ _ _ h => h) (Or.inl ⟨by rfl, ?_⟩) hS ?_; rotate_left; (focus ((intro W9 hSW; obtain ⟨hs1, hs2, hs3, hs4⟩ := hSW; go_simp) <;> with_reducible rfl)))
        (refine wpAnyH_take (i := 12) (v := ?_) rfl (by kernel_rfl) (by kernel_rfl) (by kernel_rfl) (fun _ _ _ h => h) (Or.inl ⟨by rfl, ?_⟩) hS ?_; rotate_left; (focus ((intro W9 hSW; obtain ⟨hs1, hs2, hs3, hs4⟩ := hSW; go_simp) <;> with_reducible rfl)))
        (refine wpAnyH_take (i := 13) (v := ?_) rfl (by kernel_rfl) (by kernel_rfl) (by kernel_rfl) (fun _ _ _ h => h) (Or.inl ⟨by rfl, ?_⟩) hS ?_; rotate_left; (focus ((intro W9 hSW; obtain ⟨hs1, hs2, hs3, hs4⟩ := hSW; go_simp) <;> with_reducible rfl)))
        (refine wpAnyH_take (i := 14) (v := ?_) rfl (by kernel_rfl) (by kernel_rfl) (by kernel_rfl) (fun _ _ _ h => h) (Or.inl ⟨by rfl, ?_⟩) hS ?_; rotate_left; (focus ((intro W9 hSW; obtain ⟨hs1, hs2, hs3, hs4⟩ := hSW; go_simp) <;> with_reducible rfl)))
        (refine wpAnyH_ready (rs := [4]) (by kernel_rfl) (by simp) ?_; refine AllReadyH.cons rfl (fun K hK => ?_) AllReadyH.nil)
        go_simp
        go_at_call 39
        refine Calls.mono hbt.out ?_
        rintro e w6 ⟨A', n', c', rfl, hv, hf, hb6⟩
        refine hK.out _ _ (keepRn hS0 hb6) (fun hS => ?_)
        (refine wpAnyH_take (i := 9) (v := ?_) rfl (by kernel_rfl) (by kernel_rfl) (by kernel_rfl) (fun _ _ _ h => h) (Or.inl ⟨by rfl, ?_⟩) hS ?_; rotate_left; (focus ((intro W9 hSW; obtain ⟨hs1, hs2, hs3, hs4⟩ := hSW; go_simp) <;> with_reducible rfl)))
        (refine wpAnyH_ready (rs := [15]) (by kernel_rfl) (by simp) ?_; refine AllReadyH.cons rfl (fun K hK => ?_) AllReadyH.nil)
        have pres6 : pBlk s0 #[.slice none 0 0, .slice none 0 0] 57 w6 := pBlk_st _ _ _ _ _ pres ((show Below wr.heap.size wr wr.drew from (Below.refl _ _).drew).trans hb6)
        rw [if_pos (by rfl)]
        refine wp_store_row 57 (.tmp 4) (.tmp 63) rfl s0 #[.slice A' n' c', .slice A2 O.length c2] rfl rfl 57 #[.slice none 0 0, .slice none 0 0] pres6 res_size rfl (by simp [Value.oneCell']) ?_
        have hrr := setRow_far (w := w6) (cs := #[.slice A' n' c', .slice A2 O.length c2]) hrs
        have hss : (w6.setRow s0 #[.slice A' n' c', .slice A2 O.length c2]).heap.size = w6.heap.size := by simp [World.setRow]
        have hS7 : (rb < ((w6.setRow s0 #[.slice A' n' c', .slice A2 O.length c2])).heap.size ∧ ((w6.setRow s0 #[.slice A' n' c', .slice A2 O.length c2])).cell? ⟨rb, 0, none⟩ = some (.pointer (some ⟨g, 0, none⟩)) ∧ ((w6.setRow s0 #[.slice A' n' c', .slice A2 O.length c2])).cell? ⟨rb, 3, none⟩ = some (.int .i64 (p : Nat)) ∧ ((w6.setRow s0 #[.slice A' n' c', .slice A2 O.length c2])).cell? ⟨rb, 4, none⟩ = some (.slice A2 O.length c2)) := ⟨by rw [hss]; exact hS.1, (World.cell?_of_block (a := ⟨rb, 0, none⟩) hrr).trans hS.2.1, (World.cell?_of_block (a := ⟨rb, 3, none⟩) hrr).trans hS.2.2.1, (World.cell?_of_block (a := ⟨rb, 4, none⟩) hrr).trans hS.2.2.2⟩
        have p7 : pBlk s0 #[.slice A' n' c', .slice A2 O.length c2] 57 (w6.setRow s0 #[.slice A' n' c', .slice A2 O.length c2]) := setRow_heap w6 s0 _ _ _ _ pres6
        have r0 := p7.cell 0 _ rfl
        have r1 := p7.cell 1 _ rfl
        have hv7 := hv.setRow (cs := #[.slice A' n' c', .slice A2 O.length c2]) pres6 (by simp)
        have hrd7 : RdU (w6.setRow s0 #[.slice A' n' c', .slice A2 O.length c2]) (w6.setRow s0 #[.slice A' n' c', .slice A2 O.length c2]).heap.size A2 O := by
          refine ⟨?_, fun b off e i hi => ?_⟩
          · rw [hss]
            exact hrd.place.imp (fun h => h) fun ⟨b, off, e, h⟩ => ⟨b, off, e, Nat.lt_of_lt_of_le h hb6.size⟩
          · have hc := hrd.cells b off e i hi
            have hbl := cell_lt hc
            have hbs0 : b ≠ s0 := fun e9 => by
              subst e9
              have hpc := hc
              have : ∀ k u, wr.cell? ⟨b, k, none⟩ = some u → ∀ y, u ≠ .int .u64 y := fun k u hk y hy => by
                subst hy
                unfold pBlk at pres
                simp [World.cell?, pres] at hk
                rcases k with _ | _ | k <;> simp at hk
              exact this _ _ hc _ rfl
            rw [World.cell?_of_block (a := ⟨b, off + i, none⟩) (setRow_far hbs0), hb6.cell (p := ⟨b, off + i, none⟩) hbl]
            exact hc
        have hBf : Below w.heap.size w (w6.setRow s0 #[.slice A' n' c', .slice A2 O.length c2]) := below_setRow (hBr.trans (((show Below wr.heap.size wr wr.drew from (Below.refl _ _).drew).trans hb6).mono hBr.size)) (Nat.le_of_eq hsr) _
        clear hss hrr hrs hbt hb6 hv hf pres pres6 hrd hBr p7
        refine hK.out _ _ hS7 (fun hS => ?_)
        (refine wpAnyH_take (i := 16) (v := ?_) rfl (by kernel_rfl) (by kernel_rfl) (by kernel_rfl) (fun _ _ _ h => h) (Or.inl ⟨by rfl, ?_⟩) hS ?_; rotate_left; (focus ((intro W9 hSW; obtain ⟨hs1, hs2, hs3, hs4⟩ := hSW; go_simp) <;> with_reducible rfl)))
        (refine wpAnyH_take (i := 17) (v := ?_) rfl (by kernel_rfl) (by kernel_rfl) (by kernel_rfl) (fun _ _ _ h => h) (Or.inl ⟨by rfl, ?_⟩) hS ?_; rotate_left; (focus ((intro W9 hSW; obtain ⟨hs1, hs2, hs3, hs4⟩ := hSW; go_simp) <;> with_reducible rfl)))
        refine wpAnyH_done (by kernel_rfl) ?_ _
        go_wp2
        refine bodyPost_ret (v := .tuple #[.agg #[.slice A' n' c', .slice A2 O.length c2], .int .i64 (p : Nat), .int .i64 ev9]) (by simp [results, Tryz.results37, go_sem, r0, r1]) rfl ?_
        obtain ⟨z1, z2, z3, z4⟩ := hR9.out
        exact ⟨A', A2, n', c', c2, by rw [z2, z3, z4], by rw [z1]; exact hv7, by rw [z2]; exact hlc, by rw [z2]; exact hrd7, hBf⟩
end Go.Proofs.YtobokaafmcfeaaaGreatDoor
