/-
  AtomTells' plain law: what the program's functions on atoms tell is what the document's tell.
-/
import Derived.Test.YthjlneaedajkmaaGreatDoorTx4
namespace Go.Proofs.YthjlneaedajkmaaGreatDoor.PAtomTells
open Go.RowKit Go.Proofs.YthjlneaedajkmaaGreatDoorW.PrintWords Go.Proofs.YthjlneaedajkmaaGreatDoorW.PrintLast Go.Proofs.YthjlneaedajkmaaGreatDoorW.PrintMore
set_option linter.unusedVariables false

theorem wr (i : Nat) (h : i ≤ 150) : wrap64 ((i : Int) + 1) = ((i + 1 : Nat) : Int) := by
  unfold wrap64
  omega

theorem few_ok (l0 : List S36) (b : Int) : ∀ (d k : Nat) (x4 : List S36) (i : Nat), i + d = 150 → d < k → x4.length ≤ i → ∃ r, gutterlaw13_Few.l0 k l0 b x4 i = some r ∧ r.length ≤ 150 := by
  intro d
  induction d with
  | zero =>
    intro k x4 i hi hk hl
    obtain ⟨k, rfl⟩ : ∃ m, k = m + 1 := ⟨k - 1, by omega⟩
    refine ⟨x4, ?_, by omega⟩
    simp only [gutterlaw13_Few.l0]
    by_cases h : (i : Int) < (l0.length : Int)
    · rw [if_pos h, if_neg (by omega)]
    · rw [if_neg h]
  | succ d ih =>
    intro k x4 i hi hk hl
    obtain ⟨k, rfl⟩ : ∃ m, k = m + 1 := ⟨k - 1, by omega⟩
    simp only [gutterlaw13_Few.l0]
    by_cases h : (i : Int) < (l0.length : Int)
    · rw [if_pos h, if_pos (by omega), if_pos (by omega), if_pos (by omega), wr i (by omega)]
      exact ih k _ (i + 1) (by omega) (by omega) (by simp; omega)
    · rw [if_neg h]
      exact ⟨x4, rfl, by omega⟩

theorem sizes1 (k : Nat) (hk : 2 ≤ k) (x : Int) : atom_areSizes.f k [x] = some (!badSize x) := by
  obtain ⟨k, rfl⟩ : ∃ m, k = m + 2 := ⟨k - 2, by omega⟩
  have e1 : wrap64 ((0 : Int) + 1) = 1 := wr 0 (by omega)
  have e2 : rd [x] 0 = x := rfl
  unfold atom_areSizes.f
  simp only [idxf.l0, List.length_singleton]
  rw [if_pos (by decide), if_pos (by decide), if_pos (by decide), e2]
  cases hb : badSize x with
  | true => rfl
  | false =>
    rw [if_neg (by decide), e1, if_neg (by decide)]
    rfl

def good (x : S36) : Prop := (1 ≤ x.f2 ∧ x.f2 ≤ 1073741824) ∧ (0 ≤ x.f3 ∧ x.f3 ≤ 1048576) ∧ (0 ≤ x.f0 ∧ x.f0 < 200) ∧ 0 ≤ x.f1 ∧ 0 ≤ x.f4 ∧ x.f4 ≤ 2
theorem bad_iff (y : Int) : (!badSize y) = true ↔ 0 ≤ y ∧ y ≤ 1048576 := by
  unfold badSize
  simp only [Bool.not_or, Bool.and_eq_true, Bool.not_eq_true', decide_eq_false_iff_not]
  omega

theorem right_eq (L : List S36) (hn : L.length ≤ 150) : ∀ (d k i : Nat), i + d = L.length → d + 2 < k → ∃ r, atom_Right.l0 k L L (L.length : Int) i = some r ∧ gutterref13_Right.l0 k L i = some r := by
  intro d
  induction d with
  | zero =>
    intro k i hi hk
    obtain ⟨k, rfl⟩ : ∃ m, k = m + 1 := ⟨k - 1, by omega⟩
    refine ⟨decide ((L.length : Int) ≤ 2000), ?_, ?_⟩
    · simp only [atom_Right.l0]; rw [if_neg (by omega)]
    · simp only [gutterref13_Right.l0]; rw [if_neg (by omega)]
  | succ d ih =>
    intro k i hi hk
    obtain ⟨k, rfl⟩ : ∃ m, k = m + 1 := ⟨k - 1, by omega⟩
    obtain ⟨r, h1, h2⟩ := ih k (i + 1) (by omega) (by omega)
    have hlt : (i : Int) < (L.length : Int) := by omega
    have h0 : (0 : Int) ≤ (i : Int) := by omega
    simp only [atom_Right.l0, gutterref13_Right.l0]
    rw [if_pos hlt, if_pos h0, if_pos hlt, if_pos hlt, if_pos h0, sizes1 k (by omega), wr i (by omega), h1, h2]
    simp only [Option.bind_some]
    generalize rd_T36 L (i : Int) = x
    have hb := bad_iff x.f3
    by_cases hg : good x
    · obtain ⟨⟨a1, a2⟩, ⟨a3, a4⟩, ⟨a5, a6⟩, a7, a8, a9⟩ := hg
      refine ⟨r, ?_, ?_⟩
      · rw [if_pos a1, if_pos a2, if_pos a5, if_pos a6, if_pos (hb.2 ⟨a3, a4⟩), if_pos a7, if_neg (by omega), if_neg (by omega)]
      · rw [if_neg (by omega), if_neg (by omega), if_neg (by omega), if_neg (by omega), if_neg (by omega), if_neg (by omega), if_neg (by omega), if_neg (by omega), if_neg (by omega)]
    · refine ⟨false, ?_, ?_⟩
      · repeat' split
        all_goals first
          | rfl
          | (rename_i c1 c2 c3 c4 c5 c6 c7 c8; exact absurd ⟨⟨c1, c2⟩, hb.1 c5, ⟨c3, c4⟩, c6, by omega, by omega⟩ hg)
      · repeat' split
        all_goals first
          | rfl
          | (exfalso; apply hg; unfold good; omega)

theorem high_eq (L : List S36) (hn : L.length ≤ 150) : ∀ (d k i : Nat) (n : Int), i + d = L.length → d < k → ∃ r, atom_High.l0 k n L (L.length : Int) i = some r ∧ gutterref13_High.l0 k L n i = some r := by
  intro d
  induction d with
  | zero =>
    intro k i n hi hk
    obtain ⟨k, rfl⟩ : ∃ m, k = m + 1 := ⟨k - 1, by omega⟩
    refine ⟨n, ?_, ?_⟩
    · simp only [atom_High.l0]; rw [if_neg (by omega)]
    · simp only [gutterref13_High.l0]; rw [if_neg (by omega)]
  | succ d ih =>
    intro k i n hi hk
    obtain ⟨k, rfl⟩ : ∃ m, k = m + 1 := ⟨k - 1, by omega⟩
    have hlt : (i : Int) < (L.length : Int) := by omega
    have h0 : (0 : Int) ≤ (i : Int) := by omega
    simp only [atom_High.l0, gutterref13_High.l0]
    rw [if_pos hlt, if_pos h0, if_pos hlt, if_pos hlt, if_pos h0, wr i (by omega)]
    by_cases hp : (i : Int) > 0
    · rw [if_pos hp, if_pos hp]
      exact ih k (i + 1) _ (by omega) (by omega)
    · rw [if_neg hp, if_neg hp]
      exact ih k (i + 1) _ (by omega) (by omega)

theorem of_eq (L : List S36) (hn : L.length ≤ 150) (a : Int) : ∀ (d k i : Nat) (x : List Int), i + d = L.length → d < k → x.length ≤ i → ∃ r, atom_Of.l0 k a x L (L.length : Int) i = some r ∧ gutterref13_Of.l0 k L a x i = some r ∧ r.length ≤ 150 := by
  intro d
  induction d with
  | zero =>
    intro k i x hi hk hx
    obtain ⟨k, rfl⟩ : ∃ m, k = m + 1 := ⟨k - 1, by omega⟩
    refine ⟨x, ?_, ?_, by omega⟩
    · simp only [atom_Of.l0]; rw [if_neg (by omega)]
    · simp only [gutterref13_Of.l0]; rw [if_neg (by omega)]
  | succ d ih =>
    intro k i x hi hk hx
    obtain ⟨k, rfl⟩ : ∃ m, k = m + 1 := ⟨k - 1, by omega⟩
    have hlt : (i : Int) < (L.length : Int) := by omega
    have h0 : (0 : Int) ≤ (i : Int) := by omega
    simp only [atom_Of.l0, gutterref13_Of.l0]
    rw [if_pos hlt, if_pos h0, if_pos hlt, if_pos hlt, if_pos h0, wr i (by omega)]
    by_cases hp : (rd_T36 L (i : Int)).f0 = a
    · rw [if_pos hp, if_pos hp, if_pos (by omega), if_pos (by omega)]
      exact ih k (i + 1) _ (by omega) (by omega) (by simp; omega)
    · rw [if_neg hp, if_neg hp]
      exact ih k (i + 1) _ (by omega) (by omega) (by omega)

theorem ints_self (l : List Int) (hn : l.length ≤ 150) : ∀ (d k i : Nat), i + d = l.length → d < k → gutterref05_Ints.l0 k l l i = some true := by
  intro d
  induction d with
  | zero =>
    intro k i hi hk
    obtain ⟨k, rfl⟩ : ∃ m, k = m + 1 := ⟨k - 1, by omega⟩
    simp only [gutterref05_Ints.l0]; rw [if_neg (by omega)]
  | succ d ih =>
    intro k i hi hk
    obtain ⟨k, rfl⟩ : ∃ m, k = m + 1 := ⟨k - 1, by omega⟩
    have hlt : (i : Int) < (l.length : Int) := by omega
    simp only [gutterref05_Ints.l0]
    rw [if_pos hlt, if_pos (by omega), if_pos hlt, if_pos trivial, wr i (by omega)]
    exact ih k (i + 1) (by omega) (by omega)

theorem same_eq (L M : List S36) (hn : L.length ≤ 150) (hm : M.length = L.length) : ∀ (d k i : Nat), i + d = L.length → d < k → ∃ r, api_Atom.l0 k L M (L.length : Int) i = some r ∧ gutterref13_Same.l0 k L M i = some r := by
  intro d
  induction d with
  | zero =>
    intro k i hi hk
    obtain ⟨k, rfl⟩ : ∃ m, k = m + 1 := ⟨k - 1, by omega⟩
    refine ⟨true, ?_, ?_⟩
    · simp only [api_Atom.l0]; rw [if_neg (by omega)]
    · simp only [gutterref13_Same.l0]; rw [if_neg (by omega)]
  | succ d ih =>
    intro k i hi hk
    obtain ⟨k, rfl⟩ : ∃ m, k = m + 1 := ⟨k - 1, by omega⟩
    have hlt : (i : Int) < (L.length : Int) := by omega
    have hlt2 : (i : Int) < (M.length : Int) := by omega
    have h0 : (0 : Int) ≤ (i : Int) := by omega
    simp only [api_Atom.l0, gutterref13_Same.l0]
    rw [if_pos hlt, if_pos h0, if_pos hlt, if_pos hlt2, if_pos hlt, if_pos h0, if_pos hlt2, wr i (by omega)]
    split
    · exact ⟨false, rfl, rfl⟩
    · exact ih k (i + 1) (by omega) (by omega)

theorem same_self (L : List S36) (hn : L.length ≤ 150) : ∀ (d k i : Nat), i + d = L.length → d < k → api_Atom.l0 k L L (L.length : Int) i = some true := by
  intro d
  induction d with
  | zero =>
    intro k i hi hk
    obtain ⟨k, rfl⟩ : ∃ m, k = m + 1 := ⟨k - 1, by omega⟩
    simp only [api_Atom.l0]; rw [if_neg (by omega)]
  | succ d ih =>
    intro k i hi hk
    obtain ⟨k, rfl⟩ : ∃ m, k = m + 1 := ⟨k - 1, by omega⟩
    have hlt : (i : Int) < (L.length : Int) := by omega
    simp only [api_Atom.l0]
    rw [if_pos hlt, if_pos (by omega), if_pos hlt, if_pos hlt, if_neg (by simp), wr i (by omega)]
    exact ih k (i + 1) (by omega) (by omega)

theorem pure_law (l m : List S36) (a : Int) : gutterlaw13_AtomTells.f 300 l m a = some true := by
  obtain ⟨L, hL, hl⟩ := few_ok l 1099511627776 150 300 [] 0 (by omega) (by omega) (by simp)
  obtain ⟨M, hM, hm⟩ := few_ok m 1099511627776 150 300 [] 0 (by omega) (by omega) (by simp)
  obtain ⟨r1, a1, b1⟩ := right_eq L hl L.length 300 0 (by omega) (by omega)
  obtain ⟨r2, a2, b2⟩ := high_eq L hl L.length 300 0 0 (by omega) (by omega)
  obtain ⟨r3, a3, b3, c3⟩ := of_eq L hl a L.length 300 0 [] (by omega) (by omega) (by simp)
  have a4 := ints_self r3 c3 r3.length 300 0 (by omega) (by omega)
  have a5 := same_self L hl L.length 300 0 (by omega) (by omega)
  have hL' : gutterlaw13_Few.f 300 l = some L := hL
  have hM' : gutterlaw13_Few.f 300 m = some M := hM
  have a1' : atom_Right.f 300 L = some r1 := a1
  have b1' : gutterref13_Right.f 300 L = some r1 := b1
  have a2' : atom_High.f 300 L = some r2 := a2
  have b2' : gutterref13_High.f 300 L = some r2 := b2
  have a3' : atom_Of.f 300 L a = some r3 := a3
  have b3' : gutterref13_Of.f 300 L a = some r3 := b3
  have a4' : gutterref05_Ints.f 300 r3 r3 = some true := by unfold gutterref05_Ints.f; rw [if_pos rfl]; exact a4
  have a5' : atom_Same.f 300 L L = some true := by
    unfold atom_Same.f api_Atom.f; rw [if_pos rfl]; rw [show api_Atom.l0 300 L L (L.length : Int) 0 = some true from a5]; rfl
  obtain ⟨r6, a6, b6⟩ : ∃ r, atom_Same.f 300 L M = some r ∧ gutterref13_Same.f 300 L M = some r := by
    unfold atom_Same.f api_Atom.f gutterref13_Same.f
    by_cases h : (L.length : Int) = (M.length : Int)
    · rw [if_pos h, if_pos h]
      obtain ⟨r, g1, g2⟩ := same_eq L M hl (by omega) L.length 300 0 (by omega) (by omega)
      exact ⟨r, by rw [show api_Atom.l0 300 L M (L.length : Int) 0 = some r from g1]; rfl, g2⟩
    · rw [if_neg h, if_neg h]
      exact ⟨false, rfl, rfl⟩
  unfold gutterlaw13_AtomTells.f gutterlaw13_shown.f
  simp only [Option.bind_some, hL', hM', a1', b1', a2', b2', a3', b3', a4', a5', a6, b6, if_true, beq_self_eq_true]
end Go.Proofs.YthjlneaedajkmaaGreatDoor.PAtomTells
