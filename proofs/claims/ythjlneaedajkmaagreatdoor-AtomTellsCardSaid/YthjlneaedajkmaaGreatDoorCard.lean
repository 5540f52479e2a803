/-
  AtomTells: which atoms are right, how high all are, which are of a node, which lists are the same: what the program tells is what the document tells. THE TIED CARD: at any two lists of atoms and any number, wherever the listed variables (the sentinel errors, the type error's handle) read as the program's text lays them.
-/
import Derived.Test.YthjlneaedajkmaaGreatDoorRow
import Derived.Test.YthjlneaedajkmaaGreatDoorCards
import Derived.Test.YthjlneaedajkmaaGreatDoorTie
import Derived.SevenTiedAt
namespace Go.Proofs.YthjlneaedajkmaaGreatDoor
open Go

theorem atomTells_card : Rows.AtomTellsCardSaid :=
  Claim7.holds_tied_plain_at .later [] [.handle, .sentinel, .sentinel, .sentinel, .sentinel, .sentinel, .sentinel, .sentinel, .sentinel] true (true, "2b5a826694c8403726d75a76cafbf6d7b0ef8e88efe07a43317c45f695c06524") true
    atomTells.over (fun _ h => by cases h) (by kernel_rfl) (fun _ h => by cases h) atomTells_row_tie rfl ⟨rfl, rfl⟩ (by kernel_rfl) rfl
    (fun f fn hf hfn => by
      obtain rfl : f = 4 := Option.some.inj ((show Tryz.prog.funcNamed "gutter/gutterlaw13.AtomTells" = some 4 by kernel_rfl).symm.trans hf) |>.symm
      obtain rfl : fn = Tryz.f4 := (Option.some.inj (Tryz.func4.symm.trans hfn)).symm
      exact ⟨by kernel_rfl, fun j t ht => by
        rw [Tryz.params4] at ht
        have hm : t ∈ [30, 30, 3] := by simpa using Array.mem_of_getElem? ht
        have hall : ([30, 30, 3].all fun u => !Tryz.prog.wantsStandIn u) = true := by kernel_rfl
        exact (show Tryz.prog.wantsStandIn t = false by simpa using List.all_eq_true.1 hall t hm)⟩)
    (by kernel_rfl)
#print axioms atomTells_card
end Go.Proofs.YthjlneaedajkmaaGreatDoor
