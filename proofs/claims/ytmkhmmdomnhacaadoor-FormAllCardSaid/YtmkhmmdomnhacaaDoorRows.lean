/-
  NARROWER THAN 'FOR EVERY INPUT', by the rows' own cells (each row's printed sentence says how): FormTells: laid · FormCanon: laid · FormTwice: laid · FormShapes: laid · FormAll: laid.
  DERIVED. THE GIVEN ROWS OF THIS SEAT. 5 by the template 'for every input the law returns true; each argument reads behind the call as it read before'; 0 by the template 'total and deterministic' (their statements: YtmkhmmdomnhacaaDoorTotals.lean).
  GIVEN WITH THE SEED: the statements are not yours to turn. If you find one false, say at which input.
  Laid BY PROGRAM, IN A SANDBOX (cutbox-rows.mjs): the forced cells as the released guide's own fill.sh prints them over the translation 3bbab345d60138ce… (all of the seat's roots in one cut). By AI agents, Wed Nov 11 2026. No macro, syntax, notation, axiom, sorry.
-/
import Derived.Test.YtmkhmmdomnhacaaDoorChecked
import GoSem.Claim
import GoSem.ClaimJoined
import GoSem.ClaimMapViews
import Derived.JoinedTies
import Derived.KernelRfl
namespace Go.Proofs.YtmkhmmdomnhacaaDoor
/- THE CELL 'sum', in the pinned program and in every row, IS THE sha256 OF THE DUMP (.gsa) THAT YtmkhmmdomnhacaaDoorProg.lean LOADS. Nothing in Lean hashes anything: it is a label: what it is worth is what the hold of that sum in a sandbox is worth. -/
noncomputable def Tryd.pinned : Pinned := { name := "ytmkhmmdomnhacaadoor", sum := "3bbab345d60138ce3690399430cc7df0fbf3f3ea5b6970ff4cd828f462ad9019", checked := Tryd.checked }
namespace Rows
def none {H : Type} : Left H := { results := [], args := [] }

/- WHAT THE LISTED PACKAGE-LEVEL VARIABLES READ AS WHEN THE CALL BEGINS. Each datum BY PROGRAM (the guide's laid-datum.mjs) off the statement by which the dump's own 'gosem.cut.vars' lays the variable. In a bare row this is a premise. The card (YtmkhmmdomnhacaaDoorCards.lean) ties it to the program's text. -/
def laid_caliper_forms_forms {H : Type} : DataW H := .agg [.agg [.lit (.int .i64 0), .lit (.int .i64 0), .lit (.int .i64 0), .lit (.int .i64 0), .lit (.int .u64 0), .lit (.int .u64 0), .lit (.int .u64 0)], .agg [.lit (.int .i64 1), .lit (.int .i64 8), .lit (.int .i64 0), .lit (.int .i64 0), .lit (.int .u64 127), .lit (.int .u64 0), .lit (.int .u64 128)], .agg [.lit (.int .i64 1), .lit (.int .i64 16), .lit (.int .i64 0), .lit (.int .i64 0), .lit (.int .u64 32767), .lit (.int .u64 0), .lit (.int .u64 32768)], .agg [.lit (.int .i64 1), .lit (.int .i64 32), .lit (.int .i64 0), .lit (.int .i64 0), .lit (.int .u64 2147483647), .lit (.int .u64 0), .lit (.int .u64 2147483648)], .agg [.lit (.int .i64 1), .lit (.int .i64 64), .lit (.int .i64 0), .lit (.int .i64 0), .lit (.int .u64 9223372036854775807), .lit (.int .u64 0), .lit (.int .u64 9223372036854775808)], .agg [.lit (.int .i64 2), .lit (.int .i64 8), .lit (.int .i64 3), .lit (.int .i64 7), .lit (.int .u64 126), .lit (.int .u64 0), .lit (.int .u64 127)], .agg [.lit (.int .i64 2), .lit (.int .i64 8), .lit (.int .i64 2), .lit (.int .i64 15), .lit (.int .u64 123), .lit (.int .u64 124), .lit (.int .u64 126)], .agg [.lit (.int .i64 2), .lit (.int .i64 6), .lit (.int .i64 2), .lit (.int .i64 3), .lit (.int .u64 31), .lit (.int .u64 0), .lit (.int .u64 0)], .agg [.lit (.int .i64 2), .lit (.int .i64 6), .lit (.int .i64 3), .lit (.int .i64 1), .lit (.int .u64 31), .lit (.int .u64 0), .lit (.int .u64 0)], .agg [.lit (.int .i64 2), .lit (.int .i64 4), .lit (.int .i64 1), .lit (.int .i64 1), .lit (.int .u64 7), .lit (.int .u64 0), .lit (.int .u64 0)], .agg [.lit (.int .i64 3), .lit (.int .i64 8), .lit (.int .i64 6), .lit (.int .i64 0), .lit (.int .u64 127), .lit (.int .u64 0), .lit (.int .u64 0)], .agg [.lit (.int .i64 4), .lit (.int .i64 8), .lit (.int .i64 0), .lit (.int .i64 127), .lit (.int .u64 254), .lit (.int .u64 0), .lit (.int .u64 255)], .agg [.lit (.int .i64 2), .lit (.int .i64 16), .lit (.int .i64 10), .lit (.int .i64 15), .lit (.int .u64 31743), .lit (.int .u64 31744), .lit (.int .u64 32256)], .agg [.lit (.int .i64 2), .lit (.int .i64 32), .lit (.int .i64 23), .lit (.int .i64 127), .lit (.int .u64 2139095039), .lit (.int .u64 2139095040), .lit (.int .u64 2143289344)], .agg [.lit (.int .i64 2), .lit (.int .i64 64), .lit (.int .i64 52), .lit (.int .i64 1023), .lit (.int .u64 9218868437227405311), .lit (.int .u64 9218868437227405312), .lit (.int .u64 9221120237041090560)]]

/-- 'caliperlaw04.FormTells': WHATEVER THE INPUT: true; the input reads as it did. -/
def formTellsSpec : ChangeSpec := { name := "formTells", fn := fun _ => fun
  | [d] => { results := [.lit (.bool true)], args := [d] }
  | _ => none }
def formTellsRow : OpenClaim := { program := "ytmkhmmdomnhacaadoor", sum := "3bbab345d60138ce3690399430cc7df0fbf3f3ea5b6970ff4cd828f462ad9019", func := "caliper/caliperlaw04.FormTells", spec := "formTells", named := ["caliper/forms.forms"], apart := false, laid := [("caliper/forms.forms", laid_caliper_forms_forms)] }
def FormTellsSaid : Prop := formTellsRow.holds Tryd.pinned (OpenSpec.ofChange formTellsSpec)

/-- ITS FALSE NEIGHBOUR: 'it returns false'. Refute it at one input. -/
def formTellsWrong : ChangeSpec := { name := "formTells", fn := fun _ => fun
  | [d] => { results := [.lit (.bool false)], args := [d] }
  | _ => none }
def FormTellsWrongFalsely : Prop := formTellsRow.holds Tryd.pinned (OpenSpec.ofChange formTellsWrong)

/-- 'caliperlaw04.FormCanon': WHATEVER THE INPUT: true; the input reads as it did. -/
def formCanonSpec : ChangeSpec := { name := "formCanon", fn := fun _ => fun
  | [d1, d2] => { results := [.lit (.bool true)], args := [d1, d2] }
  | _ => none }
def formCanonRow : OpenClaim := { program := "ytmkhmmdomnhacaadoor", sum := "3bbab345d60138ce3690399430cc7df0fbf3f3ea5b6970ff4cd828f462ad9019", func := "caliper/caliperlaw04.FormCanon", spec := "formCanon", named := ["caliper/forms.forms"], apart := false, laid := [("caliper/forms.forms", laid_caliper_forms_forms)] }
def FormCanonSaid : Prop := formCanonRow.holds Tryd.pinned (OpenSpec.ofChange formCanonSpec)

/-- ITS FALSE NEIGHBOUR: 'it returns false'. Refute it at one input. -/
def formCanonWrong : ChangeSpec := { name := "formCanon", fn := fun _ => fun
  | [d1, d2] => { results := [.lit (.bool false)], args := [d1, d2] }
  | _ => none }
def FormCanonWrongFalsely : Prop := formCanonRow.holds Tryd.pinned (OpenSpec.ofChange formCanonWrong)

/-- 'caliperlaw04.FormTwice': WHATEVER THE INPUT: true; the input reads as it did. -/
def formTwiceSpec : ChangeSpec := { name := "formTwice", fn := fun _ => fun
  | [d1, d2] => { results := [.lit (.bool true)], args := [d1, d2] }
  | _ => none }
def formTwiceRow : OpenClaim := { program := "ytmkhmmdomnhacaadoor", sum := "3bbab345d60138ce3690399430cc7df0fbf3f3ea5b6970ff4cd828f462ad9019", func := "caliper/caliperlaw04.FormTwice", spec := "formTwice", named := ["caliper/forms.forms"], apart := false, laid := [("caliper/forms.forms", laid_caliper_forms_forms)] }
def FormTwiceSaid : Prop := formTwiceRow.holds Tryd.pinned (OpenSpec.ofChange formTwiceSpec)

/-- ITS FALSE NEIGHBOUR: 'it returns false'. Refute it at one input. -/
def formTwiceWrong : ChangeSpec := { name := "formTwice", fn := fun _ => fun
  | [d1, d2] => { results := [.lit (.bool false)], args := [d1, d2] }
  | _ => none }
def FormTwiceWrongFalsely : Prop := formTwiceRow.holds Tryd.pinned (OpenSpec.ofChange formTwiceWrong)

/-- 'caliperlaw04.FormShapes': WHATEVER THE INPUT: true; the input reads as it did. -/
def formShapesSpec : ChangeSpec := { name := "formShapes", fn := fun _ => fun
  | [d1, d2] => { results := [.lit (.bool true)], args := [d1, d2] }
  | _ => none }
def formShapesRow : OpenClaim := { program := "ytmkhmmdomnhacaadoor", sum := "3bbab345d60138ce3690399430cc7df0fbf3f3ea5b6970ff4cd828f462ad9019", func := "caliper/caliperlaw04.FormShapes", spec := "formShapes", named := ["caliper/forms.forms"], apart := false, laid := [("caliper/forms.forms", laid_caliper_forms_forms)] }
def FormShapesSaid : Prop := formShapesRow.holds Tryd.pinned (OpenSpec.ofChange formShapesSpec)

/-- ITS FALSE NEIGHBOUR: 'it returns false'. Refute it at one input. -/
def formShapesWrong : ChangeSpec := { name := "formShapes", fn := fun _ => fun
  | [d1, d2] => { results := [.lit (.bool false)], args := [d1, d2] }
  | _ => none }
def FormShapesWrongFalsely : Prop := formShapesRow.holds Tryd.pinned (OpenSpec.ofChange formShapesWrong)

/-- 'caliperlaw04.FormAll': WHATEVER THE INPUT: true; the input reads as it did. -/
def formAllSpec : ChangeSpec := { name := "formAll", fn := fun _ => fun
  | [d] => { results := [.lit (.bool true)], args := [d] }
  | _ => none }
def formAllRow : OpenClaim := { program := "ytmkhmmdomnhacaadoor", sum := "3bbab345d60138ce3690399430cc7df0fbf3f3ea5b6970ff4cd828f462ad9019", func := "caliper/caliperlaw04.FormAll", spec := "formAll", named := ["caliper/forms.forms"], apart := false, laid := [("caliper/forms.forms", laid_caliper_forms_forms)] }
def FormAllSaid : Prop := formAllRow.holds Tryd.pinned (OpenSpec.ofChange formAllSpec)

/-- ITS FALSE NEIGHBOUR: 'it returns false'. Refute it at one input. -/
def formAllWrong : ChangeSpec := { name := "formAll", fn := fun _ => fun
  | [d] => { results := [.lit (.bool false)], args := [d] }
  | _ => none }
def FormAllWrongFalsely : Prop := formAllRow.holds Tryd.pinned (OpenSpec.ofChange formAllWrong)

/- THE SECOND FORM. 'bulk': how many values and letters a reading holds, each counted each time it is reached (what is shared counts as often as it is met; a slice's spare places count too). A statement '..UptoSaid' is the law's where the arguments, and the package variables that the reading takes, are together of bulk at most 1048576: NARROWER than '..Said'. Prove '..Said' where nothing that the law and all that it calls make is longer than what came in: it says more and counts as full. Else prove '..UptoSaid'. A law counts once. -/
mutual
def uptoBulk {H : Type} : DataW H → Nat
  | .lit (.string bytes) => bytes.length + 1
  | .lit _ => 1
  | .nil => 1
  | .ptr d => uptoBulk d + 1
  | .slice elems spare => uptoBulkAll elems + uptoBulkAll spare + 1
  | .agg parts => uptoBulkAll parts + 1
  | .iface _ d => uptoBulk d + 1
  | .map entries => uptoBulkEntries entries + 1
  | .held _ => 1
def uptoBulkAll {H : Type} : List (DataW H) → Nat
  | [] => 0
  | d :: r => uptoBulk d + uptoBulkAll r
def uptoBulkEntries {H : Type} : List (Lit × DataW H) → Nat
  | [] => 0
  | x :: r => uptoBulkEntry x + uptoBulkEntries r
def uptoBulkEntry {H : Type} : Lit × DataW H → Nat
  | (.string bytes, d) => bytes.length + uptoBulk d + 1
  | (_, d) => uptoBulk d + 1
 end
def uptoSmall : (H : Type) → List (DataW H) → Bool := fun _ ds => decide (uptoBulkAll ds ≤ 1048576)
def OpenSpec.upto (s : _root_.Go.ChangeSpec) : _root_.Go.OpenSpec := { _root_.Go.OpenSpec.ofChange s with cond := some uptoSmall }

/-- 'caliperlaw04.FormTells', WHERE WHAT IT READS IS OF BULK AT MOST 1048576: true; the input reads as it did. -/
def formTellsUptoRow : OpenClaim := { program := "ytmkhmmdomnhacaadoor", sum := "3bbab345d60138ce3690399430cc7df0fbf3f3ea5b6970ff4cd828f462ad9019", func := "caliper/caliperlaw04.FormTells", spec := "formTells", named := ["caliper/forms.forms"], apart := false, laid := [("caliper/forms.forms", laid_caliper_forms_forms)], narrowed := true }
def FormTellsUptoSaid : Prop := formTellsUptoRow.holds Tryd.pinned (OpenSpec.upto formTellsSpec)

/-- 'caliperlaw04.FormCanon', WHERE WHAT IT READS IS OF BULK AT MOST 1048576: true; the input reads as it did. -/
def formCanonUptoRow : OpenClaim := { program := "ytmkhmmdomnhacaadoor", sum := "3bbab345d60138ce3690399430cc7df0fbf3f3ea5b6970ff4cd828f462ad9019", func := "caliper/caliperlaw04.FormCanon", spec := "formCanon", named := ["caliper/forms.forms"], apart := false, laid := [("caliper/forms.forms", laid_caliper_forms_forms)], narrowed := true }
def FormCanonUptoSaid : Prop := formCanonUptoRow.holds Tryd.pinned (OpenSpec.upto formCanonSpec)

/-- 'caliperlaw04.FormTwice', WHERE WHAT IT READS IS OF BULK AT MOST 1048576: true; the input reads as it did. -/
def formTwiceUptoRow : OpenClaim := { program := "ytmkhmmdomnhacaadoor", sum := "3bbab345d60138ce3690399430cc7df0fbf3f3ea5b6970ff4cd828f462ad9019", func := "caliper/caliperlaw04.FormTwice", spec := "formTwice", named := ["caliper/forms.forms"], apart := false, laid := [("caliper/forms.forms", laid_caliper_forms_forms)], narrowed := true }
def FormTwiceUptoSaid : Prop := formTwiceUptoRow.holds Tryd.pinned (OpenSpec.upto formTwiceSpec)

/-- 'caliperlaw04.FormShapes', WHERE WHAT IT READS IS OF BULK AT MOST 1048576: true; the input reads as it did. -/
def formShapesUptoRow : OpenClaim := { program := "ytmkhmmdomnhacaadoor", sum := "3bbab345d60138ce3690399430cc7df0fbf3f3ea5b6970ff4cd828f462ad9019", func := "caliper/caliperlaw04.FormShapes", spec := "formShapes", named := ["caliper/forms.forms"], apart := false, laid := [("caliper/forms.forms", laid_caliper_forms_forms)], narrowed := true }
def FormShapesUptoSaid : Prop := formShapesUptoRow.holds Tryd.pinned (OpenSpec.upto formShapesSpec)

/-- 'caliperlaw04.FormAll', WHERE WHAT IT READS IS OF BULK AT MOST 1048576: true; the input reads as it did. -/
def formAllUptoRow : OpenClaim := { program := "ytmkhmmdomnhacaadoor", sum := "3bbab345d60138ce3690399430cc7df0fbf3f3ea5b6970ff4cd828f462ad9019", func := "caliper/caliperlaw04.FormAll", spec := "formAll", named := ["caliper/forms.forms"], apart := false, laid := [("caliper/forms.forms", laid_caliper_forms_forms)], narrowed := true }
def FormAllUptoSaid : Prop := formAllUptoRow.holds Tryd.pinned (OpenSpec.upto formAllSpec)

end Rows
end Go.Proofs.YtmkhmmdomnhacaaDoor
