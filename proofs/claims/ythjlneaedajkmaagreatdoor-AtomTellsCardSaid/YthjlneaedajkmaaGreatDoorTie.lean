/-
  DERIVED. GIVEN WITH THE SEED: THE PROGRAM's TIES (one call each: nine closed facts by the kernel) AND EACH ROW's TIE, after the 31st guide's Derived/Test/Toyas{Tie, Card}.lean. No idea stands in it: it is a product of the set-up. Laid BY PROGRAM, IN A SANDBOX (cutbox-door.mjs). By AI agents, Wed Nov 11 2026. No macro, syntax, notation, axiom, sorry.
-/
import Derived.Test.YthjlneaedajkmaaGreatDoorRows
import Derived.LaidByTextLater
import Derived.SevenTiedAt
import Derived.LaidSub
import Derived.LaidOnce
namespace Go.Proofs.YthjlneaedajkmaaGreatDoor
open Go
set_option maxRecDepth 100000
theorem seatTie1 : Tryz.prog.laidByTextLater [("errors.errorType", Rows.laid_errors_errorType), ("gutter/para.errPara", Rows.laid_gutter_para_errPara), ("gutter/float.errFloat", Rows.laid_gutter_float_errFloat), ("gutter/tree.errTree", Rows.laid_gutter_tree_errTree), ("gutter/tree.errDeep", Rows.laid_gutter_tree_errDeep), ("gutter/tree.errMany", Rows.laid_gutter_tree_errMany), ("gutter/tree.errNode", Rows.laid_gutter_tree_errNode), ("gutter/wrap.errWrap", Rows.laid_gutter_wrap_errWrap), ("gutter/atom.errAtom", Rows.laid_gutter_atom_errAtom)] [.handle, .sentinel, .sentinel, .sentinel, .sentinel, .sentinel, .sentinel, .sentinel, .sentinel] true :=
  Program.laidByTextLater_by_one 168 8 2 (by kernel_rfl) (by kernel_rfl) (by kernel_rfl) (by kernel_rfl) (by kernel_rfl) (by kernel_rfl) (fun _ _ => by kernel_rfl)
theorem noOwnUnsafe : Tryz.pinned.checked.prog.headLifts.contains "ownunsafe" = false := by kernel_rfl
theorem tie : Tryz.prog.laidByTextLater [("errors.errorType", Rows.laid_errors_errorType), ("gutter/para.errPara", Rows.laid_gutter_para_errPara), ("gutter/float.errFloat", Rows.laid_gutter_float_errFloat), ("gutter/tree.errTree", Rows.laid_gutter_tree_errTree), ("gutter/tree.errDeep", Rows.laid_gutter_tree_errDeep), ("gutter/tree.errMany", Rows.laid_gutter_tree_errMany), ("gutter/tree.errNode", Rows.laid_gutter_tree_errNode), ("gutter/wrap.errWrap", Rows.laid_gutter_wrap_errWrap), ("gutter/atom.errAtom", Rows.laid_gutter_atom_errAtom)] [.handle, .sentinel, .sentinel, .sentinel, .sentinel, .sentinel, .sentinel, .sentinel, .sentinel] true :=
  Program.laidByTextLater.sub seatTie1 ["errors.errorType", "gutter/para.errPara", "gutter/float.errFloat", "gutter/tree.errTree", "gutter/tree.errDeep", "gutter/tree.errMany", "gutter/tree.errNode", "gutter/wrap.errWrap", "gutter/atom.errAtom"] (by kernel_rfl) (by kernel_rfl)
theorem atomOrders_row_tie : Rows.atomOrdersRow.laidByTextAt .later Tryz.pinned [.handle, .sentinel, .sentinel, .sentinel, .sentinel, .sentinel, .sentinel, .sentinel, .sentinel] true :=
  OpenClaim.laidByTextAt_later rfl rfl tie noOwnUnsafe
theorem atomTells_row_tie : Rows.atomTellsRow.laidByTextAt .later Tryz.pinned [.handle, .sentinel, .sentinel, .sentinel, .sentinel, .sentinel, .sentinel, .sentinel, .sentinel] true :=
  OpenClaim.laidByTextAt_later rfl rfl tie noOwnUnsafe
theorem atomOrdersUpto_row_tie : Rows.atomOrdersUptoRow.laidByTextAt .later Tryz.pinned [.handle, .sentinel, .sentinel, .sentinel, .sentinel, .sentinel, .sentinel, .sentinel, .sentinel] true :=
  OpenClaim.laidByTextAt_later rfl rfl tie noOwnUnsafe
theorem atomTellsUpto_row_tie : Rows.atomTellsUptoRow.laidByTextAt .later Tryz.pinned [.handle, .sentinel, .sentinel, .sentinel, .sentinel, .sentinel, .sentinel, .sentinel, .sentinel] true :=
  OpenClaim.laidByTextAt_later rfl rfl tie noOwnUnsafe
end Go.Proofs.YthjlneaedajkmaaGreatDoor
