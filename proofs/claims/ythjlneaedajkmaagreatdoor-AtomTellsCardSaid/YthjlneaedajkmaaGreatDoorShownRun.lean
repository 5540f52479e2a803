/-
  shown() of the atoms' statements, run once by the machine: one closed computation; and the call of it, in a world in which the listed variables read as laid.
-/
import Derived.Test.YthjlneaedajkmaaGreatDoorShown
set_option linter.unusedVariables false
namespace Go.Proofs.YthjlneaedajkmaaGreatDoor.Shown
open Go Go.AM Go.RowKit Go.ChangeShapes
set_option maxRecDepth 100000

theorem shown_ok (o e : Nat → Nat) : ok ((it T 100000).call 5 [] (s0 o e)) = true := by kernel_rfl

def laidV : List (String × DataW Unit) := [("gutter/para.errPara", Rows.laid_gutter_para_errPara), ("gutter/float.errFloat", Rows.laid_gutter_float_errFloat), ("gutter/tree.errTree", Rows.laid_gutter_tree_errTree), ("gutter/tree.errDeep", Rows.laid_gutter_tree_errDeep), ("gutter/tree.errMany", Rows.laid_gutter_tree_errMany), ("gutter/tree.errNode", Rows.laid_gutter_tree_errNode), ("gutter/wrap.errWrap", Rows.laid_gutter_wrap_errWrap), ("gutter/atom.errAtom", Rows.laid_gutter_atom_errAtom)]
def laidT : List (String × DataW Unit) := [("errors.errorType", Rows.laid_errors_errorType)]

theorem parts {W : World} (h : laidMetH Tryz.prog Rows.atomTellsRow.laid W) : laidMet Tryz.prog laidV W ∧ handlesMet Tryz.prog laidT W := h

noncomputable def rho (b : Nat → Nat) : Env := fun id => if id ≤ 10 then some id else if id < 20 then some (b id) else none

theorem OR.err {ρ : Env} {id b off e : Nat} (h : ρ id = some b) : OR T ρ (err id off e) (.cells #[.iface 319 (.pointer (some ⟨b, off, none⟩))] e (0, 0)) :=
  OR.row e ⟨_, _, ⟨_, ⟨b, h, rfl⟩, rfl⟩, rfl, rfl⟩

theorem start {W : World} (h : laidMetH Tryz.prog Rows.atomTellsRow.laid W) : ∃ o e ρ, HR T ρ W.heap.size (s0 o e) W := by
  obtain ⟨hv, ht⟩ := parts h
  obtain ⟨b0, o0, e0, h0⟩ := sentinel hv (n := "gutter/atom.errAtom") (g := 0) (d := Rows.laid_gutter_atom_errAtom) (by simp [laidV]) rfl (by kernel_rfl) (by kernel_rfl)
  obtain ⟨b2, o2, e2, h2⟩ := sentinel hv (n := "gutter/tree.errMany") (g := 2) (d := Rows.laid_gutter_tree_errMany) (by simp [laidV]) rfl (by kernel_rfl) (by kernel_rfl)
  obtain ⟨b3, o3, e3, h3⟩ := sentinel hv (n := "gutter/tree.errTree") (g := 3) (d := Rows.laid_gutter_tree_errTree) (by simp [laidV]) rfl (by kernel_rfl) (by kernel_rfl)
  obtain ⟨b4, o4, e4, h4⟩ := sentinel hv (n := "gutter/tree.errDeep") (g := 4) (d := Rows.laid_gutter_tree_errDeep) (by simp [laidV]) rfl (by kernel_rfl) (by kernel_rfl)
  obtain ⟨b5, o5, e5, h5⟩ := sentinel hv (n := "gutter/tree.errNode") (g := 5) (d := Rows.laid_gutter_tree_errNode) (by simp [laidV]) rfl (by kernel_rfl) (by kernel_rfl)
  obtain ⟨b6, o6, e6, h6⟩ := sentinel hv (n := "gutter/float.errFloat") (g := 6) (d := Rows.laid_gutter_float_errFloat) (by simp [laidV]) rfl (by kernel_rfl) (by kernel_rfl)
  obtain ⟨b7, o7, e7, h7⟩ := sentinel hv (n := "gutter/wrap.errWrap") (g := 7) (d := Rows.laid_gutter_wrap_errWrap) (by simp [laidV]) rfl (by kernel_rfl) (by kernel_rfl)
  obtain ⟨b8, o8, e8, h8⟩ := sentinel hv (n := "gutter/para.errPara") (g := 8) (d := Rows.laid_gutter_para_errPara) (by simp [laidV]) rfl (by kernel_rfl) (by kernel_rfl)
  obtain ⟨e1, fz, h1⟩ := handle ht (List.mem_singleton.2 rfl)
  refine ⟨fun n => [o0, 0, o2, o3, o4, o5, o6, o7, o8].getD n 0, fun n => [e0, e1, e2, e3, e4, e5, e6, e7, e8].getD n 0, rho (fun n => [b0, b2, b3, b4, b5, b6, b7, b8].getD (n - 11) 0), HR.start ?_ ?_ ?_ ?_ ?_⟩
  · intro p hp
    simp only [Shown.h0, List.mem_cons, List.mem_nil_iff, or_false] at hp
    rcases hp with rfl | rfl | rfl | rfl | rfl | rfl | rfl | rfl | rfl <;> simp
  · intro p hp
    simp only [Shown.h0, List.mem_cons, List.mem_nil_iff, or_false] at hp
    rcases hp with rfl | rfl | rfl | rfl | rfl | rfl | rfl | rfl | rfl
    · exact ⟨0, _, rfl, h0, OR.err rfl⟩
    · exact ⟨1, _, rfl, h1, ⟨_, fz, rfl, ⟨_, [], by simp, ⟨_, _, ⟨_, ⟨_, ⟨_, _, ⟨10, rfl, rfl⟩, rfl, rfl⟩, rfl⟩, rfl⟩, rfl, rfl⟩⟩, fun cap hc => by cases hc⟩⟩
    · exact ⟨2, _, rfl, h2, OR.err rfl⟩
    · exact ⟨3, _, rfl, h3, OR.err rfl⟩
    · exact ⟨4, _, rfl, h4, OR.err rfl⟩
    · exact ⟨5, _, rfl, h5, OR.err rfl⟩
    · exact ⟨6, _, rfl, h6, OR.err rfl⟩
    · exact ⟨7, _, rfl, h7, OR.err rfl⟩
    · exact ⟨8, _, rfl, h8, OR.err rfl⟩
  · intro p hp q hq e
    simp only [Shown.h0, List.mem_cons, List.mem_nil_iff, or_false] at hp hq
    have hp' : p.1 ≤ 10 := by rcases hp with rfl | rfl | rfl | rfl | rfl | rfl | rfl | rfl | rfl <;> simp
    have hq' : q.1 ≤ 10 := by rcases hq with rfl | rfl | rfl | rfl | rfl | rfl | rfl | rfl | rfl <;> simp
    unfold rho at e
    rw [if_pos hp', if_pos hq'] at e
    exact Option.some.inj e
  · intro id hid
    unfold rho
    rw [if_neg (by omega), if_neg (by omega)]
  · intro g hg
    unfold rho
    rw [if_pos (show g ≤ 10 from hg)]

/-- The call of shown(). -/
theorem shown_calls {W : World} (h : laidMetH Tryz.prog Rows.atomTellsRow.laid W) :
    Calls Tryz.prog 5 #[] W fun e w' => e = .returned (.bool true) ∧ Below W.heap.size W w' := by
  obtain ⟨o, e, ρ, hr⟩ := start h
  obtain ⟨s', hs⟩ := of_ok (shown_ok o e)
  have hc := (it_ok full 100000).2 5 [] (s0 o e) (.bool true) s' hs W.heap.size ρ W [] hr rfl none 100000
  have hw : CallsIn .wide 100000 Tryz.prog 5 ⟨[]⟩ W (Go.AM.Ends T W.heap.size ρ (s0 o e) W (.bool true) s') := hc
  refine (callsIn_wide.1 hw).mono fun en w' he => ?_
  cases en with
  | returned v =>
    obtain ⟨ρ', g1, g2⟩ := he
    cases g1
    exact ⟨rfl, g2.below hr⟩
  | panicked _ => exact he.elim
  | outgrown => exact he.elim
end Go.Proofs.YthjlneaedajkmaaGreatDoor.Shown
