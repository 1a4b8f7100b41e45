/- What a text's digits are, as the code reckons them; what stands behind an e, walked. Conditions: the variables that the library reads. -/
/- Rows whose walk asks the world's shape, and sentinels that are laid. Conditions: none. -/
import Derived.Test.YtdlkfnkmdlcekaaGreatDoorTp17
import Derived.Test.YtdlkfnkmdlcekaaGreatDoorTp03
import Derived.Lib.AtoiAllCases
import Derived.Test.YtdlkfnkmdlcekaaGreatDoorTp13
import Derived.HandedShaped
namespace Go.Proofs.YtdlkfnkmdlcekaaGreatDoor
open Go.RowKit Go.Cal
/-- What stands behind an e, as the code takes it. -/
def powC (l : List UInt8) : Option Int := match Lib.atoiAll l with
  | .ok k => if k = -9223372036854775808 ∨ max k (-k) < 20000 then some k else none
  | _ => none
def candAC (t : List UInt8) : Option Int := if (cutC 101 t).2.2 = true then powC (cutC 101 t).2.1 else some 0
def candKC (k0 : Int) (al p : List UInt8) : Int := IntKind.i64.wrap (k0 + (((al.length : Int) - ((trR al).length : Int)) - (p.length : Int)))
def candBC (t : List UInt8) : Option (Nat × Int) :=
  (candAC t).bind fun k0 =>
    let al := trL ((candD t).1 ++ (candD t).2)
    if trR al = [] then some (0, 0)
    else if pOkL (trR al) = true then some (numV (trR al), candKC k0 al (candD t).2) else none
def finS (l : List UInt8) (neg : Bool) : Option (Nat × Int) → Option (Bool × Nat × Int)
  | none => none
  | some (d, k) => if DRight d k ∧ lyT neg d k = l then some (neg, d, k) else none
theorem unS_fin (l : List UInt8) : unS l = finS l (unT l).2 (candB (unT l).1) := by
  unfold unS finS
  cases candB (unT l).1 with
  | none => rfl
  | some p => rfl
theorem powS_C {l : List UInt8} (h : Lib.atoiAll l ≠ .ok (-9223372036854775808)) : powC l = powS l := by
  unfold powC powS
  cases ha : Lib.atoiAll l with
  | ok k =>
    have : k ≠ -9223372036854775808 := fun e => h (by rw [ha, e])
    simp [this]
  | _ => rfl
theorem powS_lo {l : List UInt8} {k : Int} (h : powS l = some k) : -20000 < k ∧ k < 20000 := by
  unfold powS at h
  split at h
  · split at h
    · injection h with h; omega
    · cases h
  · cases h
theorem trL_le (l : List UInt8) : (trL l).length ≤ l.length := by unfold trL; exact (List.dropWhile_sublist _).length_le
theorem trR_le (l : List UInt8) : (trR l).length ≤ l.length := by
  unfold trR
  rw [List.length_reverse]
  refine Nat.le_trans (List.dropWhile_sublist _).length_le ?_
  rw [List.length_reverse]
  exact Nat.le_refl _
theorem cutC_le (c : UInt8) (l : List UInt8) : (cutC c l).1.length ≤ l.length ∧ (cutC c l).2.1.length ≤ l.length := by
  unfold cutC
  refine ⟨?_, ?_⟩
  · exact (List.takeWhile_sublist _).length_le
  · show (List.drop 1 _).length ≤ _
    rw [List.length_drop]
    have := (List.dropWhile_sublist (p := (· != c)) (l := l)).length_le
    omega
theorem candD_le (t : List UInt8) : (candD t).1.length ≤ t.length ∧ (candD t).2.length ≤ t.length := by
  unfold candD
  have h1 := cutC_le 101 t
  have h2 := cutC_le 46 (cutC 101 t).1
  exact ⟨by simp only; omega, by simp only; omega⟩
theorem unT_le (l : List UInt8) : (unT l).1.length ≤ l.length := by
  unfold unT
  split
  · simp
  · exact Nat.le_refl _
/-- As the code reckons them they are what they are. -/
theorem unC_eq (l : List UInt8) (hl : l.length ≤ 1000000) : finS l (unT l).2 (candBC (unT l).1) = unS l := by
  obtain ⟨t, ht⟩ : ∃ t, (unT l).1 = t := ⟨_, rfl⟩
  have htl : t.length ≤ 1000000 := by rw [← ht]; exact Nat.le_trans (unT_le l) hl
  rw [unS_fin, ht]
  have hD := candD_le t
  obtain ⟨p, hp⟩ : ∃ p, (candD t).2 = p := ⟨_, rfl⟩
  obtain ⟨u, hu⟩ : ∃ u, (candD t).1 = u := ⟨_, rfl⟩
  rw [hp, hu] at hD
  have hal := trL_le (u ++ p)
  have hdg := trR_le (trL (u ++ p))
  rw [List.length_append] at hal
  by_cases h9 : (cutC 101 t).2.2 = true ∧ Lib.atoiAll (cutC 101 t).2.1 = .ok (-9223372036854775808)
  · have hS : candB t = none := by
      have : candA t = none := by unfold candA; rw [if_pos h9.1]; unfold powS; rw [h9.2]; simp only; rw [if_neg (by omega)]
      unfold candB
      rw [this]; rfl
    have hC : candAC t = some (-9223372036854775808) := by unfold candAC; rw [if_pos h9.1]; unfold powC; rw [h9.2]; simp
    rw [hS]
    unfold candBC
    rw [hC]
    simp only [Option.bind_some, hp, hu]
    by_cases h0 : trR (trL (u ++ p)) = []
    · rw [if_pos h0]
      unfold finS
      simp only
      rw [if_neg]
      rintro ⟨_, h⟩
      have hc : (101 : UInt8) ∈ l := by
        have h1 : (101 : UInt8) ∈ t := by
          have := h9.1
          unfold cutC at this
          simpa using this
        have h2 : ∀ x, x ∈ (unT l).1 → x ∈ l := by
          intro x hx
          unfold unT at hx
          split at hx
          · exact List.mem_cons_of_mem _ hx
          · exact hx
        exact h2 _ (by rw [ht]; exact h1)
      rw [← h] at hc
      revert hc
      cases (unT l).2 <;> decide
    · rw [if_neg h0]
      by_cases hk : pOkL (trR (trL (u ++ p))) = true
      · rw [if_pos hk]
        unfold finS
        simp only
        rw [if_neg]
        rintro ⟨h, _⟩
        have hK : ¬ (-5000 ≤ candKC (-9223372036854775808) (trL (u ++ p)) p ∧ candKC (-9223372036854775808) (trL (u ++ p)) p ≤ 5000) := by
          unfold candKC
          obtain ⟨a, ha⟩ : ∃ a, (trL (u ++ p)).length = a := ⟨_, rfl⟩
          obtain ⟨b, hb⟩ : ∃ b, (trR (trL (u ++ p))).length = b := ⟨_, rfl⟩
          rw [ha] at hal hdg
          rw [hb] at hdg
          rw [ha, hb]
          unfold IntKind.wrap IntKind.bits IntKind.signed
          simp
          omega
        rcases h with ⟨_, h⟩ | ⟨_, _, _, h1, h2⟩
        · exact hK ⟨by omega, by omega⟩
        · exact hK ⟨h1, h2⟩
      · rw [if_neg hk, finS]
  · have hA : candAC t = candA t := by
      unfold candAC candA
      by_cases h1 : (cutC 101 t).2.2 = true
      · rw [if_pos h1, if_pos h1]
        exact powS_C fun e => h9 ⟨h1, e⟩
      · rw [if_neg h1, if_neg h1]
    have hlo : ∀ k, candA t = some k → -20000 < k ∧ k < 20000 := by
      intro k hk
      unfold candA at hk
      split at hk
      · exact powS_lo hk
      · injection hk with hk; omega
    congr 1
    unfold candBC candB
    rw [hA]
    cases hc : candA t with
    | none => rfl
    | some k =>
      have := hlo k hc
      simp only [Option.bind_some, hp, hu]
      have hK : candKC k (trL (u ++ p)) p = k + (((trL (u ++ p)).length : Int) - ((trR (trL (u ++ p))).length : Int) - (p.length : Int)) := by
        unfold candKC IntKind.wrap IntKind.bits IntKind.signed
        simp
        omega
      rw [hK]
/-- The variables that the library reads. -/
structure LyW (w : World) : Prop where
  tab : Tab10 w
  mx : ∃ m, w.cell? ⟨6, 0, none⟩ = some (.int .i64 m)
  es : ∃ tp p, w.var? Tryz.prog "strconv.ErrSyntax" = some #[.iface tp p]
  er : ∃ tp p, w.var? Tryz.prog "strconv.ErrRange" = some #[.iface tp p]
theorem LyW.below {w w' : World} (h : LyW w) (hb : Below w.heap.size w w') : LyW w' := by
  obtain ⟨m, hm⟩ := h.mx
  obtain ⟨t1, p1, h1⟩ := h.es
  obtain ⟨t2, p2, h2⟩ := h.er
  exact ⟨h.tab.below hb, ⟨m, (hb.cell (p := ⟨_, 0, none⟩) (cell_lt hm)).trans hm⟩, ⟨t1, p1, var_keep h1 hb⟩, ⟨t2, p2, var_keep h2 hb⟩⟩
set_option maxRecDepth 100000 in
theorem lmust_yes (w : World) : Calls Tryz.prog 77 #[.bool true] w fun e w' => e = .returned (.tuple #[]) ∧ w = w' := by
  go_enter Tryz.func77, Tryz.ntmps77
  go_wp2
  go_end0
  exact ⟨rfl, rfl⟩
set_option maxRecDepth 100000 in
theorem lmust_no (w : World) : Calls Tryz.prog 77 #[.bool false] w fun e w' => e = .panicked [{ v := .iface 121 (.agg #[]), recovered := false }] ∧ w = w' := by
  go_enter Tryz.func77, Tryz.ntmps77
  go_wp2
  exact ⟨rfl, rfl, rfl⟩
set_option maxRecDepth 100000 in
set_option maxHeartbeats 1000000 in
theorem power_yes (l : List UInt8) (hl : l.length ≤ 1000000) (k : Int) (h : powC l = some k) (w : World) : Calls Tryz.prog 73 #[.string (strL l)] w fun e w' => e = .returned (.int .i64 k) ∧ Below w.heap.size w w' := by
  have hsz := strL_size l
  unfold powC at h
  cases ha : Lib.atoiAll l with
  | ok k' =>
    rw [ha] at h
    simp only at h
    split at h
    · rename_i hh
      injection h with h
      subst h
      have hb := Lib.atoiAll_bounds ha
      have hat := Lib.hid (Tryz.strconv_Atoi_ok (strL l) (by omega) k' ha w)
      obtain ⟨s, hs⟩ : ∃ s, strL l = s := ⟨_, rfl⟩
      rw [hs] at hat ⊢
      clear ha hs hsz
      rcases hh with rfl | hh
      · go_enter Tryz.func73, Tryz.ntmps73
        go_wp2_with fail
        refine hat.out.mono ?_
        rintro e w1 ⟨rfl, hw⟩
        have hb1 : Below w.heap.size w w1 := by
          rcases hw with rfl | ⟨t, rfl⟩
          · exact Below.refl _ _
          · exact Lib.bytesWorld_below _ _ _
        clear hw
        go_wp2_with fail
        rw [show decide (max (-9223372036854775808) (wrap64 9223372036854775808) < 20000) = true by decide +kernel]
        refine (lmust_yes _).mono ?_
        rintro e w2 ⟨rfl, rfl⟩
        go_wp2
        go_ret
        exact ⟨rfl, hb1⟩
      · go_enter Tryz.func73, Tryz.ntmps73
        go_wp2_with fail
        refine hat.out.mono ?_
        rintro e w1 ⟨rfl, hw⟩
        have hb1 : Below w.heap.size w w1 := by
          rcases hw with rfl | ⟨t, rfl⟩
          · exact Below.refl _ _
          · exact Lib.bytesWorld_below _ _ _
        clear hw
        go_wp2_with fail
        refine (lmust_yes _).mono ?_
        rintro e w2 ⟨rfl, rfl⟩
        go_wp2
        go_ret
        exact ⟨rfl, hb1⟩
    · cases h
  | «syntax» => rw [ha] at h; cases h
  | range => rw [ha] at h; cases h
set_option maxRecDepth 100000 in
set_option maxHeartbeats 1000000 in
theorem power_no (l : List UInt8) (hl : l.length ≤ 1000000) (h : powC l = none) (w : World) (hW : LyW w) : Calls Tryz.prog 73 #[.string (strL l)] w fun e w' => e = .panicked [{ v := .iface 121 (.agg #[]), recovered := false }] ∧ Below w.heap.size w w' := by
  have hsz := strL_size l
  unfold powC at h
  cases ha : Lib.atoiAll l with
  | ok k' =>
    rw [ha] at h
    simp only at h
    split at h
    · cases h
    · rename_i hh
      have hb := Lib.atoiAll_bounds ha
      have hat := Lib.hid (Tryz.strconv_Atoi_ok (strL l) (by omega) k' ha w)
      obtain ⟨s, hs⟩ : ∃ s, strL l = s := ⟨_, rfl⟩
      rw [hs] at hat ⊢
      clear ha hs hsz h
      have h1 : k' ≠ -9223372036854775808 := fun e => hh (.inl e)
      have h2 : ¬ max k' (-k') < 20000 := fun e => hh (.inr e)
      clear hh
      go_enter Tryz.func73, Tryz.ntmps73
      go_wp2_with fail
      refine hat.out.mono ?_
      rintro e w1 ⟨rfl, hw⟩
      have hb1 : Below w.heap.size w w1 := by
        rcases hw with rfl | ⟨t, rfl⟩
        · exact Below.refl _ _
        · exact Lib.bytesWorld_below _ _ _
      clear hw
      go_wp2_with fail
      rw [decide_eq_false (show ¬ max k' (-k') < 20000 by omega)]
      refine (lmust_no _).mono ?_
      rintro e w2 ⟨rfl, rfl⟩
      go_wp2
      exact ⟨rfl, rfl, hb1⟩
  | «syntax» =>
    obtain ⟨tp, p, hv⟩ := hW.es
    have hat := Lib.hid (Tryz.strconv_Atoi_syntax_var (strL l) (by omega) ha tp p w hv)
    obtain ⟨s, hs⟩ : ∃ s, strL l = s := ⟨_, rfl⟩
    rw [hs] at hat ⊢
    clear ha hs hsz h
    go_enter Tryz.func73, Tryz.ntmps73
    go_wp2_with fail
    refine hat.out.mono ?_
    rintro e w1 ⟨g, rfl, _, _, hb1⟩
    go_wp2_with fail
    refine (lmust_no _).mono ?_
    rintro e w2 ⟨rfl, rfl⟩
    go_wp2
    exact ⟨rfl, rfl, hb1⟩
  | range =>
    obtain ⟨tp, p, hv⟩ := hW.er
    have hat := Lib.hid (Tryz.strconv_Atoi_range_var (strL l) (by omega) ha tp p w hv)
    obtain ⟨s, hs⟩ : ∃ s, strL l = s := ⟨_, rfl⟩
    rw [hs] at hat ⊢
    clear ha hs hsz h
    go_enter Tryz.func73, Tryz.ntmps73
    go_wp2_with fail
    refine hat.out.mono ?_
    rintro e w1 ⟨g, rfl, _, _, hb1⟩
    go_wp2_with fail
    refine (lmust_no _).mono ?_
    rintro e w2 ⟨rfl, rfl⟩
    go_wp2
    exact ⟨rfl, rfl, hb1⟩
end Go.Proofs.YtdlkfnkmdlcekaaGreatDoor
namespace Go.Proofs.YtdlkfnkmdlcekaaGreatDoor
open Go.ChangeShapes Go.WideShapes Go.ChangeAt Go.RowKit Go.Cal
/-- As the kit's wrap of that name without '_sh', the world's shape handed on. -/
theorem returnsInHanded_of_change_and_sh {H : Type} {enc : TypeId × Value → H} {a : Assume} {C : Checked} {os : Os} {f : FuncId} {fn : Func} {s : ChangeSpec} {conds : List PathCond} {apart fresh handsOn again : Bool} {X : World → Array Value → Prop}
    (hX : ∀ (w w' : World) (args : Array Value), w.heap = w'.heap → X w args → X w' args)
    (own : ownKnob C.prog.godebug = none) (started : os.Started) (noInit : C.prog.inits.idxOf? f = none) (hfn : C.prog.funcs[f]? = some fn)
    (witness : ∃ (w : World) (tape : Tape) (i : Input), w.os = os ∧ (w.forCall tape i).Shaped C.prog ∧ i.vars = [] ∧ Input.okWide C.prog (w.forCall tape i) .any w.heap.size f i ∧
      ((s.pre enc C.prog fn conds apart (w.forCall tape i).memory i.args ∧ X (w.forCall tape i).memory i.args) ∧ sizedMet enc C.prog fn (OpenSpec.ofChange s) apart (w.forCall tape i).memory i.args) ∧ a.holds C.prog (lone (Frame.enter C.prog f i.args .normal) [] (w.forCall tape i)))
    (contract : ∀ (W : World) (base : Nat) (args : Array Value) (ds gs : List (DataW H)) (before : List MemPlace),
      (∀ (j : Nat) t v, fn.params[j]? = some t → args[j]? = some v → Value.okWide C.prog W .any base t v) →
      DataW.Whole enc C.prog fn.params.toList s.vars apart W args.toList ds gs before →
      X W args → W.ShapedOpen C.prog →
      Calls C.prog f args W fun e W' => ∃ v, e = .returned v ∧ s.post enc C.prog fn apart fresh handsOn again W args v W') :
    ReturnsInHanded a C os f .any (fun w args => (s.pre enc C.prog fn conds apart w args ∧ X w args) ∧ sizedMet enc C.prog fn (OpenSpec.ofChange s) apart w args) (s.post enc C.prog fn apart fresh handsOn again) := by
  refine returnsInHanded_of_calls own started noInit witness ?_
  intro w tape i _ hsh _ hok hpre hholds
  obtain ⟨_, _, _, fn', hfn', _, _, _, _, hval⟩ := hok
  have e : fn' = fn := Option.some.inj (hfn'.symm.trans hfn)
  subst e
  obtain ⟨⟨⟨ds, gs, before, hw, hc⟩, hx⟩, hz⟩ := hpre
  refine (contract (w.forCall tape i) w.heap.size i.args ds gs before hval (DataW.Whole.of_heap (w' := w.forCall tape i) (by rfl) hw) (hX _ _ _ (by rfl) hx) hsh).mono fun e W' ⟨v, he, hp⟩ => ?_
  subst he
  exact ChangeSpec.post_blind hp
/-- A variable that is laid as an interface's value holds one. -/
theorem iface_of_laid {W : World} {laid : List (String × DataW Unit)} {n nm : String} {d : DataW Unit} {g : Nat} {t : TypeId} {ms : Array (String × TypeId)} (h : laidMet Tryz.prog laid W) (hm : (n, DataW.iface nm d) ∈ laid)
    (hg : Tryz.prog.globalNamed n = some g) (ht : (Tryz.prog.globals[g]?).map (·.type) = some t) (hi : Tryz.prog.underlying t = some (.interface ms)) : ∃ tp p, W.var? Tryz.prog n = some #[.iface tp p] := by
  obtain ⟨ps, hl, _⟩ := h
  obtain ⟨g', t', cs, fuel, p, h1, h2, h3, h4⟩ := laidVars_mem hl hm
  obtain rfl := Option.some.inj (hg.symm.trans h1)
  obtain rfl := Option.some.inj (ht.symm.trans h2)
  cases fuel with
  | zero => simp [DataW.trod] at h4
  | succ k =>
    unfold DataW.trod at h4
    rw [hi] at h4
    match hcs : cs.toList with
    | [] => rw [hcs] at h4; simp at h4
    | [x] =>
      rw [hcs] at h4
      cases x with
      | iface tp p =>
        refine ⟨tp, p, ?_⟩
        rw [h3, ← Array.toArray_toList (xs := cs), hcs]
      | _ => simp at h4
    | x :: y :: r => rw [hcs] at h4; simp at h4
theorem lyW_of_laid {W : World} {laid : List (String × DataW Unit)} (h : laidMet Tryz.prog laid W) (hsh : W.ShapedOpen Tryz.prog) (hm : ("internal/strconv.uint64pow10", Rows.laid_internal_strconv_uint64pow10) ∈ laid)
    (hs : ("strconv.ErrSyntax", Rows.laid_strconv_ErrSyntax) ∈ laid) (hr : ("strconv.ErrRange", Rows.laid_strconv_ErrRange) ∈ laid) : LyW W where
  tab := tab10_of_laid h hm
  mx := Go.Proofs.cell_of_shapedOpen_int (zero := #[.int .i64 0]) (t := 3) hsh (of_decide_eq_true (by kernel_rfl)) (by kernel_rfl) rfl (by kernel_rfl) (by kernel_rfl) Tryz.underlying3
  es := iface_of_laid h hs (g := 7) (by kernel_rfl) (by kernel_rfl) Tryz.underlying150
  er := iface_of_laid h hr (g := 8) (by kernel_rfl) (by kernel_rfl) Tryz.underlying150
end Go.Proofs.YtdlkfnkmdlcekaaGreatDoor
