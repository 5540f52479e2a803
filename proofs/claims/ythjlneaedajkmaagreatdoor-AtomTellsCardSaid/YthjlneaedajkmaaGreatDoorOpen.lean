/-
  A list of atoms that comes in reads as its atoms.
-/
import Derived.Test.YthjlneaedajkmaaGreatDoorTx0
import Derived.Deep.Slices
import Derived.OpenShut
namespace Go.Proofs.YthjlneaedajkmaaGreatDoor.atomTells
open Go.ChangeShapes Go.WideShapes Go.RowKit
open Go.Proofs.YthjlneaedajkmaaGreatDoorW.PrintWords Go.Proofs.YthjlneaedajkmaaGreatDoorW.PrintLast Go.Proofs.YthjlneaedajkmaaGreatDoorW.PrintMore
open Go.Proofs.YthjlneaedajkmaaGreatDoor.PAtomTells
set_option linter.unusedVariables false
theorem cells3 : Tryz.prog.cellsOf 3 = 1 := by kernel_rfl
theorem cells2 : Tryz.prog.cellsOf 2 = 1 := by kernel_rfl
theorem cells36 : Tryz.prog.cellsOf 36 = 5 := by kernel_rfl

/-- An atom's five cells. -/
theorem open36 {H : Type} {enc : TypeId × Value → H} {W : World} {base : Nat} {sp : Nat → Bool} {held : Bool} {n : Nat} {cs : List Value} {x : DataW H × List MemPlace} (h : DataW.trod enc Tryz.prog W base sp held n 36 cs = some x) :
    ∃ y : S36, k36.K W y cs := by
  obtain ⟨xs, m, _, _, hl, hxs, hel⟩ := DataW.trod_struct Tryz.underlying36 h
  rw [cells36] at hl
  obtain ⟨c0, c1, c2, c3, c4, rfl⟩ : ∃ c0 c1 c2 c3 c4, cs = [c0, c1, c2, c3, c4] := by
    rcases cs with _ | ⟨c0, _ | ⟨c1, _ | ⟨c2, _ | ⟨c3, _ | ⟨c4, _ | ⟨c5, cs⟩⟩⟩⟩⟩⟩
    · simp at hl
    · simp at hl
    · simp at hl
    · simp at hl
    · simp at hl
    · exact ⟨c0, c1, c2, c3, c4, rfl⟩
    · simp at hl
  · skip
    have hsz : xs.length = 5 := hxs
    have key : ∀ (i : Nat) (t off : Nat) (c : Value), i < 5 → DataW.trod enc Tryz.prog W base sp held m t [c] = xs[i]? → Tryz.prog.underlying t = some (.int .i64) → ∃ f, c = .int .i64 f := fun i t off c hi ht hu => by
      obtain ⟨y, hy⟩ : ∃ y, xs[i]? = some y := ⟨xs[i]'(by omega), by simp [show i < xs.length by omega]⟩
      rw [hy] at ht
      obtain ⟨f, e, _⟩ := DataW.trod_int hu ht
      exact ⟨f, (List.cons.inj e).1⟩
    obtain ⟨f0, rfl⟩ := key 0 3 0 c0 (by decide) (by have q : DataW.trod enc Tryz.prog W base sp held m 3 (List.take (Tryz.prog.cellsOf 3) (List.drop 0 _)) = xs[0]? := hel 0 _ rfl; rw [cells3] at q; simpa using q) Tryz.underlying3
    obtain ⟨f1, rfl⟩ := key 1 3 0 c1 (by decide) (by have q : DataW.trod enc Tryz.prog W base sp held m 3 (List.take (Tryz.prog.cellsOf 3) (List.drop 1 _)) = xs[1]? := hel 1 _ rfl; rw [cells3] at q; simpa using q) Tryz.underlying3
    obtain ⟨f2, rfl⟩ := key 2 2 0 c2 (by decide) (by have q : DataW.trod enc Tryz.prog W base sp held m 2 (List.take (Tryz.prog.cellsOf 2) (List.drop 2 _)) = xs[2]? := hel 2 _ rfl; rw [cells2] at q; simpa using q) Tryz.underlying2
    obtain ⟨f3, rfl⟩ := key 3 2 0 c3 (by decide) (by have q : DataW.trod enc Tryz.prog W base sp held m 2 (List.take (Tryz.prog.cellsOf 2) (List.drop 3 _)) = xs[3]? := hel 3 _ rfl; rw [cells2] at q; simpa using q) Tryz.underlying2
    obtain ⟨f4, rfl⟩ := key 4 3 0 c4 (by decide) (by have q : DataW.trod enc Tryz.prog W base sp held m 3 (List.take (Tryz.prog.cellsOf 3) (List.drop 4 _)) = xs[4]? := hel 4 _ rfl; rw [cells3] at q; simpa using q) Tryz.underlying3
    exact ⟨⟨f0, f1, f2, f3, f4⟩, k36_mk W _⟩

/-- A list of atoms that comes in. -/
theorem reads36 {H : Type} {enc : TypeId × Value → H} {W : World} {n : Nat} {cs : List Value} {x : DataW H × List MemPlace} (h : DataW.trod enc Tryz.prog W 0 (fun _ => true) true n 30 cs = some x) :
    ∃ A c l, cs = [.slice A l.length c] ∧ l.length ≤ c ∧ Kd.C k36 W A l.length l := by
  rcases Go.Deep.open_slice Tryz.underlying30 h with ⟨rfl, _⟩ | ⟨a, len, cap, m, n, D, Pl, rfl, _, hl, hm, hmm, _, hx⟩
  · exact ⟨none, 0, [], rfl, Nat.le_refl _, rfl, by decide, fun h => absurd h (by decide)⟩
  · rw [if_pos rfl] at hmm
    subst hmm
    rw [cells36] at hx
    haveI : Inhabited S36 := ⟨z36⟩
    obtain ⟨V, hV⟩ := Go.Deep.choose_lt (α := S36) (n := len) (p := fun i y => ∃ c, c.length = 5 ∧ k36.K W y c ∧ ∀ j u, c[j]? = some u → W.cell? (a.add (i * 5 + j)) = some u) (fun i hi => by
      obtain ⟨cs', h1, h2⟩ := hx i (by omega)
      obtain ⟨y, hy⟩ := open36 h2
      obtain ⟨_, g1, g2⟩ := World.cells?_some h1
      refine ⟨y, cs', g1, hy, fun j u hj => ?_⟩
      have hj5 : j < 5 := by rw [← g1]; exact (List.getElem?_eq_some_iff.1 hj).1
      rw [← hj, ← g2 j hj5, Addr.add_add])
    have hll : ((List.range len).map V).length = len := by simp
    refine ⟨some a, _, (List.range len).map V, by rw [hll], by rw [hll]; exact hl, ?_⟩
    rw [hll]
    refine ⟨hll, Nat.le_trans hl (Nat.le_trans hm (by decide)), fun _ => ⟨a, rfl, fun j y hj => ?_⟩⟩
    have hjl : j < len := by rw [← hll]; exact (List.getElem?_eq_some_iff.1 hj).1
    rw [List.getElem?_map, List.getElem?_range hjl] at hj
    obtain rfl := Option.some.inj hj
    exact hV j hjl

end Go.Proofs.YthjlneaedajkmaaGreatDoor.atomTells
