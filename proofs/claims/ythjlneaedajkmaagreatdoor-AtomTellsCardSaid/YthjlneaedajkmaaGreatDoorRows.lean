/-
  NARROWER THAN 'FOR EVERY INPUT', by the rows' own cells (each row's printed sentence says how): AtomOrders: laid · AtomTells: laid.
  DERIVED. THE GIVEN ROWS OF THIS SEAT. 2 by the template 'for every input the law returns true; each argument reads behind the call as it read before'; 0 by the template 'total and deterministic' (their statements: YthjlneaedajkmaaGreatDoorTotals.lean).
  GIVEN WITH THE SEED: the statements are not yours to turn. If you find one false, say at which input.
  Laid BY PROGRAM, IN A SANDBOX (cutbox-rows.mjs): the forced cells as the released guide's own fill.sh prints them over the translation 978dad68e2f53971… (all of the seat's roots in one cut). By AI agents, Wed Nov 11 2026. No macro, syntax, notation, axiom, sorry.
-/
import Derived.Test.YthjlneaedajkmaaGreatDoorChecked
import GoSem.Claim
import GoSem.ClaimJoined
import GoSem.ClaimMapViews
import Derived.JoinedTies
import Derived.KernelRfl
namespace Go.Proofs.YthjlneaedajkmaaGreatDoor
/- THE CELL 'sum', in the pinned program and in every row, IS THE sha256 OF THE DUMP (.gsa) THAT YthjlneaedajkmaaGreatDoorProg.lean LOADS. Nothing in Lean hashes anything: it is a label: what it is worth is what the hold of that sum in a sandbox is worth. -/
noncomputable def Tryz.pinned : Pinned := { name := "ythjlneaedajkmaagreatdoor", sum := "978dad68e2f5397139632b16f407aba6fbbaf5fd5b8c3b3d7a595801135d4219", checked := Tryz.checked }
namespace Rows
def none {H : Type} : Left H := { results := [], args := [] }

/- WHAT THE LISTED PACKAGE-LEVEL VARIABLES READ AS WHEN THE CALL BEGINS. Each datum BY PROGRAM (the guide's laid-datum.mjs) off the statement by which the dump's own 'gosem.cut.vars' lays the variable. In a bare row this is a premise. The card (YthjlneaedajkmaaGreatDoorCards.lean) ties it to the program's text. -/
def laid_errors_errorType {H : Type} : DataW H := .iface "internal/reflectlite.rtype" (.agg [.ptr (.lit (.string [101, 114, 114, 111, 114]))])
def laid_gutter_para_errPara {H : Type} : DataW H := .iface "*errors.errorString" (.ptr (.agg [.lit (.string [110, 111, 32, 112, 97, 114, 97, 103, 114, 97, 112, 104])]))
def laid_gutter_float_errFloat {H : Type} : DataW H := .iface "*errors.errorString" (.ptr (.agg [.lit (.string [110, 111, 32, 102, 108, 111, 97, 116])]))
def laid_gutter_tree_errTree {H : Type} : DataW H := .iface "*errors.errorString" (.ptr (.agg [.lit (.string [110, 111, 32, 110, 111, 100, 101])]))
def laid_gutter_tree_errDeep {H : Type} : DataW H := .iface "*errors.errorString" (.ptr (.agg [.lit (.string [116, 111, 111, 32, 100, 101, 101, 112])]))
def laid_gutter_tree_errMany {H : Type} : DataW H := .iface "*errors.errorString" (.ptr (.agg [.lit (.string [116, 111, 111, 32, 109, 97, 110, 121])]))
def laid_gutter_tree_errNode {H : Type} : DataW H := .iface "*errors.errorString" (.ptr (.agg [.lit (.string [110, 111, 32, 115, 117, 99, 104, 32, 110, 111, 100, 101])]))
def laid_gutter_wrap_errWrap {H : Type} : DataW H := .iface "*errors.errorString" (.ptr (.agg [.lit (.string [110, 111, 116, 32, 112, 108, 97, 99, 101, 100])]))
def laid_gutter_atom_errAtom {H : Type} : DataW H := .iface "*errors.errorString" (.ptr (.agg [.lit (.string [110, 111, 32, 97, 116, 111, 109, 115])]))

/-- 'gutterlaw13.AtomOrders': WHATEVER THE INPUT: true; the input reads as it did. -/
def atomOrdersSpec : ChangeSpec := { name := "atomOrders", fn := fun _ => fun
  | [d1, d2, d3] => { results := [.lit (.bool true)], args := [d1, d2, d3] }
  | _ => none }
def atomOrdersRow : OpenClaim := { program := "ythjlneaedajkmaagreatdoor", sum := "978dad68e2f5397139632b16f407aba6fbbaf5fd5b8c3b3d7a595801135d4219", func := "gutter/gutterlaw13.AtomOrders", spec := "atomOrders", inPlace := ["internal/reflectlite.ValueOf", "(internal/reflectlite.Value).Type", "(internal/reflectlite.Value).IsNil", "internal/reflectlite.TypeOf", "(internal/reflectlite.Value).Elem", "(internal/reflectlite.Value).Set", "sync/atomic.LoadUint32", "(*internal/sync.Mutex).Lock", "internal/race.Disable", "sync/atomic.CompareAndSwapInt32", "internal/race.Enable", "internal/race.Acquire", "(*internal/sync.Mutex).lockSlow", "internal/sync.runtime_canSpin", "internal/sync.runtime_doSpin", "internal/sync.throw", "internal/sync.runtime_nanotime", "internal/sync.runtime_SemacquireMutex", "sync/atomic.AddInt32", "(*internal/sync.Mutex).Unlock", "internal/race.ReleaseMerge", "(*internal/sync.Mutex).unlockSlow", "internal/sync.fatal", "internal/sync.runtime_Semrelease", "sync/atomic.StoreUint32", "internal/bytealg.CountString", "internal/bytealg.IndexByteString", "internal/bytealg.IndexString"], unfollowed := true, recurses := true, named := ["gutter/atom.errAtom", "gutter/tree.errMany", "gutter/tree.errTree", "gutter/tree.errDeep", "gutter/tree.errNode", "errors.errorType", "internal/bytealg.MaxLen", "gutter/wrap.errWrap", "gutter/float.errFloat", "gutter/para.errPara"], apart := false, laid := [("errors.errorType", laid_errors_errorType), ("gutter/para.errPara", laid_gutter_para_errPara), ("gutter/float.errFloat", laid_gutter_float_errFloat), ("gutter/tree.errTree", laid_gutter_tree_errTree), ("gutter/tree.errDeep", laid_gutter_tree_errDeep), ("gutter/tree.errMany", laid_gutter_tree_errMany), ("gutter/tree.errNode", laid_gutter_tree_errNode), ("gutter/wrap.errWrap", laid_gutter_wrap_errWrap), ("gutter/atom.errAtom", laid_gutter_atom_errAtom)] }
def AtomOrdersSaid : Prop := atomOrdersRow.holds Tryz.pinned (OpenSpec.ofChange atomOrdersSpec)

/-- ITS FALSE NEIGHBOUR: 'it returns false'. Refute it at one input. -/
def atomOrdersWrong : ChangeSpec := { name := "atomOrders", fn := fun _ => fun
  | [d1, d2, d3] => { results := [.lit (.bool false)], args := [d1, d2, d3] }
  | _ => none }
def AtomOrdersWrongFalsely : Prop := atomOrdersRow.holds Tryz.pinned (OpenSpec.ofChange atomOrdersWrong)

/-- 'gutterlaw13.AtomTells': WHATEVER THE INPUT: true; the input reads as it did. -/
def atomTellsSpec : ChangeSpec := { name := "atomTells", fn := fun _ => fun
  | [d1, d2, d3] => { results := [.lit (.bool true)], args := [d1, d2, d3] }
  | _ => none }
def atomTellsRow : OpenClaim := { program := "ythjlneaedajkmaagreatdoor", sum := "978dad68e2f5397139632b16f407aba6fbbaf5fd5b8c3b3d7a595801135d4219", func := "gutter/gutterlaw13.AtomTells", spec := "atomTells", inPlace := ["internal/reflectlite.ValueOf", "(internal/reflectlite.Value).Type", "(internal/reflectlite.Value).IsNil", "internal/reflectlite.TypeOf", "(internal/reflectlite.Value).Elem", "(internal/reflectlite.Value).Set", "sync/atomic.LoadUint32", "(*internal/sync.Mutex).Lock", "internal/race.Disable", "sync/atomic.CompareAndSwapInt32", "internal/race.Enable", "internal/race.Acquire", "(*internal/sync.Mutex).lockSlow", "internal/sync.runtime_canSpin", "internal/sync.runtime_doSpin", "internal/sync.throw", "internal/sync.runtime_nanotime", "internal/sync.runtime_SemacquireMutex", "sync/atomic.AddInt32", "(*internal/sync.Mutex).Unlock", "internal/race.ReleaseMerge", "(*internal/sync.Mutex).unlockSlow", "internal/sync.fatal", "internal/sync.runtime_Semrelease", "sync/atomic.StoreUint32", "internal/bytealg.CountString", "internal/bytealg.IndexByteString", "internal/bytealg.IndexString"], unfollowed := true, recurses := true, named := ["gutter/atom.errAtom", "gutter/tree.errMany", "gutter/tree.errTree", "gutter/tree.errDeep", "gutter/tree.errNode", "errors.errorType", "internal/bytealg.MaxLen", "gutter/wrap.errWrap", "gutter/float.errFloat", "gutter/para.errPara"], apart := false, laid := [("errors.errorType", laid_errors_errorType), ("gutter/para.errPara", laid_gutter_para_errPara), ("gutter/float.errFloat", laid_gutter_float_errFloat), ("gutter/tree.errTree", laid_gutter_tree_errTree), ("gutter/tree.errDeep", laid_gutter_tree_errDeep), ("gutter/tree.errMany", laid_gutter_tree_errMany), ("gutter/tree.errNode", laid_gutter_tree_errNode), ("gutter/wrap.errWrap", laid_gutter_wrap_errWrap), ("gutter/atom.errAtom", laid_gutter_atom_errAtom)] }
def AtomTellsSaid : Prop := atomTellsRow.holds Tryz.pinned (OpenSpec.ofChange atomTellsSpec)

/-- ITS FALSE NEIGHBOUR: 'it returns false'. Refute it at one input. -/
def atomTellsWrong : ChangeSpec := { name := "atomTells", fn := fun _ => fun
  | [d1, d2, d3] => { results := [.lit (.bool false)], args := [d1, d2, d3] }
  | _ => none }
def AtomTellsWrongFalsely : Prop := atomTellsRow.holds Tryz.pinned (OpenSpec.ofChange atomTellsWrong)

/- THE SECOND FORM. 'bulk': how many values and letters a reading holds, each counted each time it is reached (what is shared counts as often as it is met; a slice's spare places count too). A statement '..UptoSaid' is the law's where the arguments, and the package variables that the reading takes, are together of bulk at most 1048576: NARROWER than '..Said'. Prove '..Said' where nothing that the law and all that it calls make is longer than what came in: it says more and counts as full. Else prove '..UptoSaid'. A law counts once. -/
mutual
def uptoBulk {H : Type} : DataW H → Nat
  | .lit (.string bytes) => bytes.length + 1
  | .lit _ => 1
  | .nil => 1
  | .ptr d => uptoBulk d + 1
  | .slice elems spare => uptoBulkAll elems + uptoBulkAll spare + 1
  | .agg parts => uptoBulkAll parts + 1
  | .iface _ d => uptoBulk d + 1
  | .map entries => uptoBulkEntries entries + 1
  | .held _ => 1
def uptoBulkAll {H : Type} : List (DataW H) → Nat
  | [] => 0
  | d :: r => uptoBulk d + uptoBulkAll r
def uptoBulkEntries {H : Type} : List (Lit × DataW H) → Nat
  | [] => 0
  | x :: r => uptoBulkEntry x + uptoBulkEntries r
def uptoBulkEntry {H : Type} : Lit × DataW H → Nat
  | (.string bytes, d) => bytes.length + uptoBulk d + 1
  | (_, d) => uptoBulk d + 1
 end
def uptoSmall : (H : Type) → List (DataW H) → Bool := fun _ ds => decide (uptoBulkAll ds ≤ 1048576)
def OpenSpec.upto (s : _root_.Go.ChangeSpec) : _root_.Go.OpenSpec := { _root_.Go.OpenSpec.ofChange s with cond := some uptoSmall }

/-- 'gutterlaw13.AtomOrders', WHERE WHAT IT READS IS OF BULK AT MOST 1048576: true; the input reads as it did. -/
def atomOrdersUptoRow : OpenClaim := { program := "ythjlneaedajkmaagreatdoor", sum := "978dad68e2f5397139632b16f407aba6fbbaf5fd5b8c3b3d7a595801135d4219", func := "gutter/gutterlaw13.AtomOrders", spec := "atomOrders", inPlace := ["internal/reflectlite.ValueOf", "(internal/reflectlite.Value).Type", "(internal/reflectlite.Value).IsNil", "internal/reflectlite.TypeOf", "(internal/reflectlite.Value).Elem", "(internal/reflectlite.Value).Set", "sync/atomic.LoadUint32", "(*internal/sync.Mutex).Lock", "internal/race.Disable", "sync/atomic.CompareAndSwapInt32", "internal/race.Enable", "internal/race.Acquire", "(*internal/sync.Mutex).lockSlow", "internal/sync.runtime_canSpin", "internal/sync.runtime_doSpin", "internal/sync.throw", "internal/sync.runtime_nanotime", "internal/sync.runtime_SemacquireMutex", "sync/atomic.AddInt32", "(*internal/sync.Mutex).Unlock", "internal/race.ReleaseMerge", "(*internal/sync.Mutex).unlockSlow", "internal/sync.fatal", "internal/sync.runtime_Semrelease", "sync/atomic.StoreUint32", "internal/bytealg.CountString", "internal/bytealg.IndexByteString", "internal/bytealg.IndexString"], unfollowed := true, recurses := true, named := ["gutter/atom.errAtom", "gutter/tree.errMany", "gutter/tree.errTree", "gutter/tree.errDeep", "gutter/tree.errNode", "errors.errorType", "internal/bytealg.MaxLen", "gutter/wrap.errWrap", "gutter/float.errFloat", "gutter/para.errPara"], apart := false, laid := [("errors.errorType", laid_errors_errorType), ("gutter/para.errPara", laid_gutter_para_errPara), ("gutter/float.errFloat", laid_gutter_float_errFloat), ("gutter/tree.errTree", laid_gutter_tree_errTree), ("gutter/tree.errDeep", laid_gutter_tree_errDeep), ("gutter/tree.errMany", laid_gutter_tree_errMany), ("gutter/tree.errNode", laid_gutter_tree_errNode), ("gutter/wrap.errWrap", laid_gutter_wrap_errWrap), ("gutter/atom.errAtom", laid_gutter_atom_errAtom)], narrowed := true }
def AtomOrdersUptoSaid : Prop := atomOrdersUptoRow.holds Tryz.pinned (OpenSpec.upto atomOrdersSpec)

/-- 'gutterlaw13.AtomTells', WHERE WHAT IT READS IS OF BULK AT MOST 1048576: true; the input reads as it did. -/
def atomTellsUptoRow : OpenClaim := { program := "ythjlneaedajkmaagreatdoor", sum := "978dad68e2f5397139632b16f407aba6fbbaf5fd5b8c3b3d7a595801135d4219", func := "gutter/gutterlaw13.AtomTells", spec := "atomTells", inPlace := ["internal/reflectlite.ValueOf", "(internal/reflectlite.Value).Type", "(internal/reflectlite.Value).IsNil", "internal/reflectlite.TypeOf", "(internal/reflectlite.Value).Elem", "(internal/reflectlite.Value).Set", "sync/atomic.LoadUint32", "(*internal/sync.Mutex).Lock", "internal/race.Disable", "sync/atomic.CompareAndSwapInt32", "internal/race.Enable", "internal/race.Acquire", "(*internal/sync.Mutex).lockSlow", "internal/sync.runtime_canSpin", "internal/sync.runtime_doSpin", "internal/sync.throw", "internal/sync.runtime_nanotime", "internal/sync.runtime_SemacquireMutex", "sync/atomic.AddInt32", "(*internal/sync.Mutex).Unlock", "internal/race.ReleaseMerge", "(*internal/sync.Mutex).unlockSlow", "internal/sync.fatal", "internal/sync.runtime_Semrelease", "sync/atomic.StoreUint32", "internal/bytealg.CountString", "internal/bytealg.IndexByteString", "internal/bytealg.IndexString"], unfollowed := true, recurses := true, named := ["gutter/atom.errAtom", "gutter/tree.errMany", "gutter/tree.errTree", "gutter/tree.errDeep", "gutter/tree.errNode", "errors.errorType", "internal/bytealg.MaxLen", "gutter/wrap.errWrap", "gutter/float.errFloat", "gutter/para.errPara"], apart := false, laid := [("errors.errorType", laid_errors_errorType), ("gutter/para.errPara", laid_gutter_para_errPara), ("gutter/float.errFloat", laid_gutter_float_errFloat), ("gutter/tree.errTree", laid_gutter_tree_errTree), ("gutter/tree.errDeep", laid_gutter_tree_errDeep), ("gutter/tree.errMany", laid_gutter_tree_errMany), ("gutter/tree.errNode", laid_gutter_tree_errNode), ("gutter/wrap.errWrap", laid_gutter_wrap_errWrap), ("gutter/atom.errAtom", laid_gutter_atom_errAtom)], narrowed := true }
def AtomTellsUptoSaid : Prop := atomTellsUptoRow.holds Tryz.pinned (OpenSpec.upto atomTellsSpec)

end Rows
end Go.Proofs.YthjlneaedajkmaaGreatDoor
