import Derived.Test.YthjlneaedajkmaaGreatDoorTx0
namespace Go.Proofs.YthjlneaedajkmaaGreatDoor.PAtomTells
open Go.RowKit Go.Proofs.YthjlneaedajkmaaGreatDoorW.PrintWords Go.Proofs.YthjlneaedajkmaaGreatDoorW.PrintLast Go.Proofs.YthjlneaedajkmaaGreatDoorW.PrintMore
attribute [local go_sem] max2_int min2_int max_two min_two max_three min_three max_four min_four   -- for this text's walks alone
set_option linter.unusedVariables false
set_option linter.unusedSimpArgs false

/-! ### gutterlaw13_shown: function 5 -/
def ShownOk (w : World) : Prop := Calls Tryz.prog 5 #[] w fun e w' => e = .returned (.bool true) ∧ Below w.heap.size w w'
def gutterlaw13_shown.f : Option Bool := some true
theorem gutterlaw13_shown.calls (r : Bool) (w : World) (hS : ShownOk w) (h : gutterlaw13_shown.f = some r) :
    Calls Tryz.prog 5 #[] w fun e w' => e = .returned (.bool r) ∧ Below w.heap.size w w' := by
  obtain rfl := Option.some.inj h
  exact hS

/-! ### atom_areSizes: function 26 -/
def badSize (x : Int) : Bool := decide (x < 0) || decide (x > 1048576)

set_option maxHeartbeats 8000000 in
set_option maxRecDepth 100000 in
theorem bad_calls (x : Int) (w : World) : Calls Tryz.prog 35 #[.int .i64 x] w fun e w' => e = .returned (.bool (badSize x)) ∧ Drawn0 w w' := by
  unfold badSize
  by_cases c3 : x < 0
  · have c3b0 : decide (x < 0) = true := decide_eq_true c3
    clear c3
    go_enter Tryz.func35, Tryz.ntmps35
    go_wp2
    go_ret
    exact ⟨by first | rfl | (simp; done) | (simp [*]; done), by repeat (first | exact Drawn0.refl _ | apply Drawn0.step)⟩
  · have c3b0 : decide (x < 0) = false := decide_eq_false c3
    clear c3
    go_enter Tryz.func35, Tryz.ntmps35
    go_wp2
    go_ret
    exact ⟨by first | rfl | (simp; done) | (simp [*]; done), by repeat (first | exact Drawn0.refl _ | apply Drawn0.step)⟩

def idxf.l0 : Nat → List Int → Int → Int → Option (Int)
  | 0, _, _, _ => none
  | k + 1, x0, x7, x8 => if x8 < x7 then (if 0 ≤ x8 then (if x8 < (x0.length : Int) then (if badSize (rd x0 x8) = true then (some x8) else (idxf.l0 k x0 x7 (wrap64 (x8 + 1)))) else (none)) else (none)) else (some (-1))
set_option maxHeartbeats 8000000 in
set_option maxRecDepth 100000 in
theorem idxf.calls (k : Nat) (A0 : Option Addr) (c0 : Nat) (l0 : List Int) (r : Int) (w : World) (hr0 : Kd.C (Kd.int .i64) w A0 l0.length l0) (hc0 : l0.length ≤ c0) (h : idxf.l0 k l0 (l0.length : Int) 0 = some r) :
    Calls Tryz.prog 54 #[.slice A0 l0.length c0, .func (.func 35) #[] #[]] w fun e w' => e = .returned (.int .i64 r) ∧ Drawn0 w w' := by
  have HR0 := Aside0.mk hr0
  have HC0 := Aside0.mk hc0
  clear hr0 hc0
  have H' := Aside0.mk h
  clear h
  go_enter Tryz.func54, Tryz.ntmps54
  go_wp2
  go_loopg [8] k (fun kq v8 w' => ∃ (x8_1 : Int), v8 = .int .i64 x8_1 ∧ Aside0 (idxf.l0 kq l0 (l0.length : Int) x8_1 = some r) ∧ Aside0 (kq ≤ k) ∧ Drawn0 w w')
  case atStart => exact ⟨(0), (by first | rfl | (simp; done) | (simp [*]; done)), H', ⟨Nat.le_refl _⟩, by repeat (first | exact Drawn0.refl _ | apply Drawn0.step)⟩
  case round =>
    clear H'
    try clear p2
    obtain ⟨x8_1, rfl, HA, HK1, ⟨m1, rfl⟩⟩ := hrel
    cases gk with
    | zero => exact absurd HA.out (by simp [idxf.l0])
    | succ k1 =>
      have H := HA.out
      clear HA
      simp only [idxf.l0] at H
      by_cases c3 : x8_1 < (l0.length : Int)
      · rw [if_pos c3] at H
        have c3b0 : decide (x8_1 < (l0.length : Int)) = true := decide_eq_true c3
        clear c3
        by_cases c4 : 0 ≤ x8_1
        · rw [if_pos c4] at H
          have c4b0 : decide (0 ≤ x8_1) = true := decide_eq_true c4
          clear c4
          by_cases c5 : x8_1 < (l0.length : Int)
          · rw [if_pos c5] at H
            have c5b0 : decide (x8_1 < (l0.length : Int)) = true := decide_eq_true c5
            clear c5
            have hcall := fun W => bad_calls (rd l0 x8_1) W
            by_cases c6 : badSize (rd l0 x8_1) = true
            · rw [if_pos c6] at H
              rw [c6] at hcall
              clear c6
              have hcall' := Aside0.mk hcall
              clear hcall
              obtain rfl := Option.some.inj H
              have p103 : 0 ≤ (x8_1 : Int) := of_decide_eq_true (by first | (with_reducible assumption) | assumption)
              have q103 : x8_1 < (l0.length : Int) := of_decide_eq_true (by first | (with_reducible assumption) | assumption)
              obtain ⟨ad103, e103, hx103_0⟩ := Kd.at_int HR0.out x8_1 p103 q103
              cases e103
              replace p103 := eq_true p103
              replace q103 := eq_true q103
              go_wp2_with (go_at_call 35; refine (hcall'.out _).mono ?_; rintro e w' ⟨rfl, nd, rfl⟩)
              go_ret
              exact ⟨by first | rfl | (simp; done) | (simp [*]; done), by repeat (first | exact Drawn0.refl _ | apply Drawn0.step)⟩
            · rw [if_neg c6] at H
              rw [Bool.eq_false_iff.mpr c6] at hcall
              clear c6
              have hcall' := Aside0.mk hcall
              clear hcall
              have H' := Aside0.mk H
              clear H
              have p103 : 0 ≤ (x8_1 : Int) := of_decide_eq_true (by first | (with_reducible assumption) | assumption)
              have q103 : x8_1 < (l0.length : Int) := of_decide_eq_true (by first | (with_reducible assumption) | assumption)
              obtain ⟨ad103, e103, hx103_0⟩ := Kd.at_int HR0.out x8_1 p103 q103
              cases e103
              replace p103 := eq_true p103
              replace q103 := eq_true q103
              go_wp2_with (go_at_call 35; refine (hcall'.out _).mono ?_; rintro e w' ⟨rfl, nd, rfl⟩)
              go_roundg k1
              case measure => have := HK1.out; omega
              case rel => exact ⟨(wrap64 (x8_1 + 1)), (by first | rfl | (simp; done) | (simp [*]; done)), H', ⟨by have := HK1.out; omega⟩, by repeat (first | exact Drawn0.refl _ | apply Drawn0.step)⟩
          · rw [if_neg c5] at H
            exact absurd H (by simp)
        · rw [if_neg c4] at H
          exact absurd H (by simp)
      · rw [if_neg c3] at H
        have c3b0 : decide (x8_1 < (l0.length : Int)) = false := decide_eq_false c3
        clear c3
        obtain rfl := Option.some.inj H
        go_wp2
        go_ret
        exact ⟨by first | rfl | (simp; done) | (simp [*]; done), by repeat (first | exact Drawn0.refl _ | apply Drawn0.step)⟩

theorem idxf.mono_l : ∀ k, (∀ y0 y1 y2, LeO (idxf.l0 k y0 y1 y2) (idxf.l0 (k + 1) y0 y1 y2))
  | 0 => fun _ _ _ r h => by simp [idxf.l0] at h
  | k + 1 => by
    have ih0 := idxf.mono_l k
    · intro y0 y1 y2
      unfold idxf.l0
      repeat' first
      | (with_reducible exact ih0 _ _ _)
      | (with_reducible exact LeO.refl _)
      | (with_reducible exact LeO.none _)
      | (with_reducible refine LeO.ite ?_ ?_)
      | (with_reducible refine LeO.bind ?_ (fun _ => ?_))
      | exact ih0 _ _ _
      | exact LeO.none _
      | refine LeO.ite ?_ ?_
      | refine LeO.bind ?_ (fun _ => ?_)

set_option maxHeartbeats 8000000 in
set_option maxRecDepth 100000 in
theorem contains.calls (k : Nat) (A0 : Option Addr) (c0 : Nat) (l0 : List Int) (r : Int) (w : World) (hr0 : Kd.C (Kd.int .i64) w A0 l0.length l0) (hc0 : l0.length ≤ c0) (h : idxf.l0 k l0 (l0.length : Int) 0 = some r) :
    Calls Tryz.prog 34 #[.slice A0 l0.length c0, .func (.func 35) #[] #[]] w fun e w' => e = .returned (.bool (decide (r ≥ 0))) ∧ Drawn0 w w' := by
  have HR0 := Aside0.mk hr0
  have HC0 := Aside0.mk hc0
  clear hr0 hc0
  have A3 := Aside0.mk h
  clear h
  go_enter Tryz.func34, Tryz.ntmps34
  go_wp2_with (first | ((with_reducible refine gate_callee (f := 54) rfl ?_); refine goesL_ (some 7) rfl rfl Tryz.func54 (by kernel_rfl) rfl #[.slice A0 l0.length c0, .func (.func 35) #[] #[]] rfl (by (try simp only [List.map_toArray, List.map_cons, List.map_nil]); first | done | rfl | (simp only [List.length_drop, List.length_take]; rfl)) ?_; (with_reducible refine (idxf.calls k _ _ l0 r _ ?side1 ?side2 A3.out).mono ?_); (case side1 => repeat (first | exact HR0.out | (with_reducible refine Kd.C_alloc ?_ _) | (with_reducible refine Kd.C_drewN ?_ _) | (with_reducible refine Kd.C_drew ?_))); (case side2 => exact HC0.out); rintro e w' ⟨rfl, ⟨nd, rfl⟩⟩; refine ⟨_, rfl, ?_⟩))
  go_ret
  exact ⟨by first | rfl | (simp; done) | (simp [*]; done), by repeat (first | exact Drawn0.refl _ | apply Drawn0.step)⟩

def atom_areSizes.f (k : Nat) (l0 : List Int) : Option (Bool) := (idxf.l0 k l0 (l0.length : Int) 0).bind fun t => some (!decide (t ≥ 0))
theorem atom_areSizes.mono : ∀ a0 k, LeO (atom_areSizes.f k a0) (atom_areSizes.f (k + 1) a0) := by
  intro a0 k
  unfold atom_areSizes.f
  exact LeO.bind (idxf.mono_l k _ _ _) (fun _ => LeO.refl _)
set_option maxHeartbeats 8000000 in
set_option maxRecDepth 100000 in
theorem atom_areSizes.calls (k : Nat) (A0 : Option Addr) (c0 : Nat) (l0 : List Int) (r : Bool) (w : World) (hr0 : Kd.C (Kd.int .i64) w A0 l0.length l0) (hc0 : l0.length ≤ c0) (h : atom_areSizes.f k l0 = some r) :
    Calls Tryz.prog 26 #[.slice A0 l0.length c0] w fun e w' => e = .returned (.bool r) ∧ Drawn0 w w' := by
  have HR0 := Aside0.mk hr0
  have HC0 := Aside0.mk hc0
  clear hr0 hc0
  obtain ⟨t, A30, H⟩ := Option.bind_eq_some_iff.mp h
  have A3 := Aside0.mk A30
  clear A30 h
  obtain rfl := Option.some.inj H
  clear H
  go_enter Tryz.func26, Tryz.ntmps26
  go_wp2_with (first | ((with_reducible refine gate_callee (f := 34) rfl ?_); refine goesL_ (some 4) rfl rfl Tryz.func34 (by kernel_rfl) rfl #[.slice A0 l0.length c0, .func (.func 35) #[] #[]] rfl (by (try simp only [List.map_toArray, List.map_cons, List.map_nil]); first | done | rfl | (simp only [List.length_drop, List.length_take]; rfl)) ?_; (with_reducible refine (contains.calls k _ _ l0 t _ ?side1 ?side2 A3.out).mono ?_); (case side1 => repeat (first | exact HR0.out | (with_reducible refine Kd.C_alloc ?_ _) | (with_reducible refine Kd.C_drewN ?_ _) | (with_reducible refine Kd.C_drew ?_))); (case side2 => exact HC0.out); rintro e w' ⟨rfl, ⟨nd, rfl⟩⟩; refine ⟨_, rfl, ?_⟩))
  go_ret
  exact ⟨by first | rfl | (simp; done) | (simp [*]; done), by repeat (first | exact Drawn0.refl _ | apply Drawn0.step)⟩

/-! ### atom_Right: function 11 -/
def atom_Right.l0 : Nat → List (S36) → List (S36) → Int → Int → Option (Bool)
  | 0, _, _, _, _ => none
  | k + 1, x0, x7, x8, x9 => if x9 < x8 then (if 0 ≤ x9 then (if x9 < (x7.length : Int) then (if ((rd_T36 x7 x9).f2) ≥ 1 then (if ((rd_T36 x7 x9).f2) ≤ 1073741824 then ((atom_areSizes.f k (([(rd_T36 x7 x9).f3] : List Int))).bind fun t106 => (if ((rd_T36 x7 x9).f0) ≥ 0 then (if ((rd_T36 x7 x9).f0) < 200 then (if t106 = true then (if (((rd_T36 x7 x9).f1) ≥ 0) then (if ((rd_T36 x7 x9).f4) < 0 then (some false) else (if ((rd_T36 x7 x9).f4) > 2 then (some false) else (atom_Right.l0 k x0 x7 x8 (wrap64 (x9 + 1))))) else (some false)) else (some false)) else (if t106 = true then (some false) else (some false))) else (if t106 = true then (some false) else (some false)))) else (if ((rd_T36 x7 x9).f0) ≥ 0 then (if ((rd_T36 x7 x9).f0) < 200 then (some false) else (some false)) else (some false))) else (if ((rd_T36 x7 x9).f0) ≥ 0 then (if ((rd_T36 x7 x9).f0) < 200 then (some false) else (some false)) else (some false))) else (none)) else (none)) else (some (decide ((x0.length : Int) ≤ 2000)))
def atom_Right.f (k : Nat) (l0 : List (S36)) : Option (Bool) := atom_Right.l0 k l0 l0 (l0.length : Int) 0
theorem atom_Right.mono_l : ∀ k, (∀ y0 y1 y2 y3, LeO (atom_Right.l0 k y0 y1 y2 y3) (atom_Right.l0 (k + 1) y0 y1 y2 y3))
  | 0 => fun _ _ _ _ r h => by simp [atom_Right.l0] at h
  | k + 1 => by
    have ih0 := atom_Right.mono_l k
    · intro y0 y1 y2 y3
      unfold atom_Right.l0
      repeat' first
      | (with_reducible exact ih0 _ _ _ _)
      | (with_reducible exact atom_areSizes.mono _ _)
      | (with_reducible exact LeO.refl _)
      | (with_reducible exact LeO.none _)
      | (with_reducible refine LeO.ite ?_ ?_)
      | (with_reducible refine LeO.bind ?_ (fun _ => ?_))
      | exact ih0 _ _ _ _
      | exact atom_areSizes.mono _ _
      | exact LeO.none _
      | refine LeO.ite ?_ ?_
      | refine LeO.bind ?_ (fun _ => ?_)
theorem atom_Right.mono : ∀ a0 k, LeO (atom_Right.f k a0) (atom_Right.f (k + 1) a0) := by
  intro a0 k
  have ih0 := atom_Right.mono_l k
  unfold atom_Right.f
  repeat' first
      | (with_reducible exact ih0 _ _ _ _)
      | (with_reducible exact atom_areSizes.mono _ _)
      | (with_reducible exact LeO.refl _)
      | (with_reducible exact LeO.none _)
      | (with_reducible refine LeO.ite ?_ ?_)
      | (with_reducible refine LeO.bind ?_ (fun _ => ?_))
      | exact ih0 _ _ _ _
      | exact atom_areSizes.mono _ _
      | exact LeO.none _
      | refine LeO.ite ?_ ?_
      | refine LeO.bind ?_ (fun _ => ?_)
set_option maxHeartbeats 8000000 in
set_option maxRecDepth 100000 in
theorem atom_Right.calls (k : Nat) (A0 : Option Addr) (c0 : Nat) (l0 : List (S36)) (r : Bool) (w : World) (hr0 : Kd.C k36 w A0 l0.length l0) (hc0 : l0.length ≤ c0) (h : atom_Right.f k l0 = some r) :
    Calls Tryz.prog 11 #[.slice A0 l0.length c0] w fun e w' => e = .returned (.bool r) ∧ Below w.heap.size w w' := by
  have hu36 := Tryz.underlying36
  have HR0 := Aside0.mk hr0
  have HC0 := Aside0.mk hc0
  clear hr0 hc0
  have HB := Aside0.mk (Below.refl w.heap.size w)
  have H : (atom_Right.l0 k l0 l0 (l0.length : Int) 0) = some r := h
  clear h
  have H' := Aside0.mk H
  clear H
  go_enter Tryz.func11, Tryz.ntmps11
  go_wp2
  go_loopg [9] k (fun kq v9 w' => ∃ (x9_1 : Int), v9 = .int .i64 x9_1 ∧ Aside0 (atom_Right.l0 kq l0 l0 (l0.length : Int) x9_1 = some r) ∧ Aside0 (kq ≤ k) ∧ Aside0 (Below w.heap.size w w'))
  case atStart => exact ⟨(0), (by first | rfl | (simp; done) | (simp [*]; done)), H', ⟨Nat.le_refl _⟩, ⟨by repeat (first | (with_reducible first | exact HB.out | apply below_alloc | apply pw_below_drewN | apply below_drew1) | exact HB.out)⟩⟩
  case round =>
    clear H'
    try clear c1
    obtain ⟨x9_1, rfl, HA, HK1, HB⟩ := hrel
    cases gk with
    | zero => exact absurd HA.out (by simp [atom_Right.l0])
    | succ k1 =>
      have H := HA.out
      clear HA
      simp only [atom_Right.l0] at H
      by_cases c2 : x9_1 < (l0.length : Int)
      · rw [if_pos c2] at H
        have c2b0 : decide (x9_1 < (l0.length : Int)) = true := decide_eq_true c2
        clear c2
        by_cases c3 : 0 ≤ x9_1
        · rw [if_pos c3] at H
          have c3b0 : decide (0 ≤ x9_1) = true := decide_eq_true c3
          clear c3
          by_cases c4 : x9_1 < (l0.length : Int)
          · rw [if_pos c4] at H
            have c4b0 : decide (x9_1 < (l0.length : Int)) = true := decide_eq_true c4
            clear c4
            by_cases c5 : ((rd_T36 l0 x9_1).f2) ≥ 1
            · rw [if_pos c5] at H
              have c5b0 : decide (1 ≤ ((rd_T36 l0 x9_1).f2)) = true := decide_eq_true c5
              clear c5
              by_cases c6 : ((rd_T36 l0 x9_1).f2) ≤ 1073741824
              · rw [if_pos c6] at H
                have c6b0 : decide (((rd_T36 l0 x9_1).f2) ≤ 1073741824) = true := decide_eq_true c6
                clear c6
                obtain ⟨y103, hy103⟩ : ∃ y_ : List Int, y_ = (([(rd_T36 l0 x9_1).f3] : List Int)) := ⟨_, rfl⟩
                replace H : ((atom_areSizes.f k1 y103).bind fun t106 => (if ((rd_T36 l0 x9_1).f0) ≥ 0 then (if ((rd_T36 l0 x9_1).f0) < 200 then (if t106 = true then (if (((rd_T36 l0 x9_1).f1) ≥ 0) then (if ((rd_T36 l0 x9_1).f4) < 0 then (some false) else (if ((rd_T36 l0 x9_1).f4) > 2 then (some false) else (atom_Right.l0 k1 l0 l0 (l0.length : Int) (wrap64 (x9_1 + 1))))) else (some false)) else (some false)) else (if t106 = true then (some false) else (some false))) else (if t106 = true then (some false) else (some false)))) = some r := by first | (rw [hy103]; with_reducible exact H) | (have H2_ := (Option.bind_some _ _).symm.trans H; rw [hy103]; with_reducible exact H2_) | (have H2_ := (Option.bind_some _ _).symm.trans H; with_reducible exact H2_) | with_reducible exact H | (rw [hy103]; exact H) | exact H
                have Ny103 := Aside0.mk hy103
                clear hy103
                replace H := Option.bind_eq_some_iff.mp H
                obtain ⟨t106, A70, H⟩ := H
                replace H : (if ((rd_T36 l0 x9_1).f0) ≥ 0 then (if ((rd_T36 l0 x9_1).f0) < 200 then (if t106 = true then (if (((rd_T36 l0 x9_1).f1) ≥ 0) then (if ((rd_T36 l0 x9_1).f4) < 0 then (some false) else (if ((rd_T36 l0 x9_1).f4) > 2 then (some false) else (atom_Right.l0 k1 l0 l0 (l0.length : Int) (wrap64 (x9_1 + 1))))) else (some false)) else (some false)) else (if t106 = true then (some false) else (some false))) else (if t106 = true then (some false) else (some false))) = some r := H
                have A7 := Aside0.mk A70
                clear A70
                by_cases c8 : ((rd_T36 l0 x9_1).f0) ≥ 0
                · rw [if_pos c8] at H
                  have c8b0 : decide (0 ≤ ((rd_T36 l0 x9_1).f0)) = true := decide_eq_true c8
                  clear c8
                  by_cases c9 : ((rd_T36 l0 x9_1).f0) < 200
                  · rw [if_pos c9] at H
                    have c9b0 : decide (((rd_T36 l0 x9_1).f0) < 200) = true := decide_eq_true c9
                    clear c9
                    by_cases c10 : t106 = true
                    · subst c10
                      have H1 : (if (((rd_T36 l0 x9_1).f1) ≥ 0) then (if ((rd_T36 l0 x9_1).f4) < 0 then (some false) else (if ((rd_T36 l0 x9_1).f4) > 2 then (some false) else (atom_Right.l0 k1 l0 l0 (l0.length : Int) (wrap64 (x9_1 + 1))))) else (some false)) = some r := by rw [if_pos rfl] at H; exact H
                      clear H
                      have H := H1
                      clear H1
                      by_cases c11 : (((rd_T36 l0 x9_1).f1) ≥ 0)
                      · rw [if_pos c11] at H
                        have c11b0 : decide (0 ≤ ((rd_T36 l0 x9_1).f1)) = true := decide_eq_true c11
                        clear c11
                        by_cases c12 : ((rd_T36 l0 x9_1).f4) < 0
                        · rw [if_pos c12] at H
                          have c12b0 : decide (((rd_T36 l0 x9_1).f4) < 0) = true := decide_eq_true c12
                          clear c12
                          obtain rfl := Option.some.inj H
                          have p101 : 0 ≤ (x9_1 : Int) := of_decide_eq_true (by first | (with_reducible assumption) | assumption)
                          have q101 : x9_1 < (l0.length : Int) := of_decide_eq_true (by first | (with_reducible assumption) | assumption)
                          obtain ⟨ad101, e101, hx101_0, hx101_1, hx101_2, hx101_3, hx101_4⟩ := at_T36 HR0.out x9_1 p101 q101
                          cases e101
                          replace hx101_0 := (HB.out.cell (World.block_lt_of_cell? w _ hx101_0)).trans hx101_0
                          replace hx101_1 := (HB.out.cell (World.block_lt_of_cell? w _ hx101_1)).trans hx101_1
                          replace hx101_2 := (HB.out.cell (World.block_lt_of_cell? w _ hx101_2)).trans hx101_2
                          replace hx101_3 := (HB.out.cell (World.block_lt_of_cell? w _ hx101_3)).trans hx101_3
                          replace hx101_4 := (HB.out.cell (World.block_lt_of_cell? w _ hx101_4)).trans hx101_4
                          replace p101 := eq_true p101
                          replace q101 := eq_true q101
                          go_wp2_with (first | ((with_reducible refine gate_dst (N := 4) rfl ?_); (try (refine gate_guard (by rfl) ?_; dsimp only)); refine box_event ?hg (N := 4) ?hd (cs := #[.int .i64 0, .int .i64 0, .int .i64 0, .int .i64 0, .int .i64 0]) (t := 36) ?hr ?_; (case hd => rfl); (case hg => rfl); (case hr => first | (go_simp; done) | (go_simp; rfl)); intro gb102 hg w13 hbox hb; have n0_ := Aside0.mk (below_step (by repeat (first | (with_reducible first | exact HB.out | apply below_alloc | apply pw_below_drewN | apply below_drew1) | exact HB.out)) hb); have n1_ := Aside0.mk (hbox); have n2_ := Aside0.mk ((by rw [hg]; exact (below_size (by repeat (first | (with_reducible first | exact HB.out | apply below_alloc | apply pw_below_drewN | apply below_drew1) | exact HB.out))) : w.heap.size ≤ gb102)); have n3_ := Aside0.mk ((by rw [hg]; exact (below_size (by repeat (first | (with_reducible first | exact HB.out | apply below_alloc | apply pw_below_drewN | apply below_drew1) | exact HB.out))) : w.heap.size ≤ gb102)); clear HB; have HB := n0_; have BK102 := n1_; have GW102 := n2_; have GE102 := n3_; clear n0_ n1_ n2_ n3_; clear hb hbox hg; have hcz14_0 : w13.cell? ⟨gb102, 0, none⟩ = some (.int .i64 0) := (blk_cell BK102.out 0).trans rfl; have hcz14_1 : w13.cell? ⟨gb102, 1, none⟩ = some (.int .i64 0) := (blk_cell BK102.out 1).trans rfl; have hcz14_2 : w13.cell? ⟨gb102, 2, none⟩ = some (.int .i64 0) := (blk_cell BK102.out 2).trans rfl; have hcz14_3 : w13.cell? ⟨gb102, 3, none⟩ = some (.int .i64 0) := (blk_cell BK102.out 3).trans rfl; have hcz14_4 : w13.cell? ⟨gb102, 4, none⟩ = some (.int .i64 0) := (blk_cell BK102.out 4).trans rfl; have hfz14_0 := blk_frozen BK102.out 0; have hfz14_1 := blk_frozen BK102.out 1; have hfz14_2 := blk_frozen BK102.out 2; have hfz14_3 := blk_frozen BK102.out 3; have hfz14_4 := blk_frozen BK102.out 4) | ((with_reducible refine gate_dst (N := 24) rfl ?_); (try (refine gate_guard (by rfl) ?_; dsimp only)); refine Kd.R_lit (Kd.int .i64) _ 2 ?hg (N := 24) ?hd (xs := ([(rd_T36 l0 x9_1).f3] : List Int)) (inner := [.int .i64 ((rd_T36 l0 x9_1).f3)]) (ok := fun _ => True) (okp := fun _ => True) ?hr ?hp (fun _ hk => hk) trivial (Below.refl _ _) (Nat.le_refl _) (by simp) ?_; (case hd => rfl); (case hg => rfl); (case hr => first | (go_simp; done) | (go_simp; rfl)); (case hp => exact (Reps.one (show Kd.M (Kd.int .i64) _ _ _ ((rd_T36 l0 x9_1).f3) [.int .i64 ((rd_T36 l0 x9_1).f3)] from rfl) (Reps.none _ _))); intro v104 w15 ho16 hb hg_ hnew_; clear hg_ hnew_; (first | rw [← Ny103.out] at ho16 | (simp only [Int.reduceToNat] at ho16; rw [← Ny103.out] at ho16)); have n0_ := Aside0.mk (Kd.R_lower ho16 (below_size (by repeat (first | (with_reducible first | exact HB.out | apply below_alloc | apply pw_below_drewN | apply below_drew1 | refine below_set ?_ GE102.out) | exact HB.out)))); have n1_ := Aside0.mk (blk_below (g := gb102) (o := .cells #[.int .i64 ((rd_T36 l0 x9_1).f0), .int .i64 ((rd_T36 l0 x9_1).f1), .int .i64 ((rd_T36 l0 x9_1).f2), .int .i64 ((rd_T36 l0 x9_1).f3), .int .i64 ((rd_T36 l0 x9_1).f4)] 36 (0, 0)) (by (with_reducible repeat (first | refine blk_drewN ?_ _ | refine blk_drew ?_ | refine blk_alloc ?_ _)); refine blk_put (cs := #[.int .i64 ((rd_T36 l0 x9_1).f0), .int .i64 ((rd_T36 l0 x9_1).f1), .int .i64 ((rd_T36 l0 x9_1).f2), .int .i64 ((rd_T36 l0 x9_1).f3), .int .i64 0]) ?_ 4 _ rfl; (with_reducible repeat (first | refine blk_drewN ?_ _ | refine blk_drew ?_ | refine blk_alloc ?_ _)); refine blk_put (cs := #[.int .i64 ((rd_T36 l0 x9_1).f0), .int .i64 ((rd_T36 l0 x9_1).f1), .int .i64 ((rd_T36 l0 x9_1).f2), .int .i64 0, .int .i64 0]) ?_ 3 _ rfl; (with_reducible repeat (first | refine blk_drewN ?_ _ | refine blk_drew ?_ | refine blk_alloc ?_ _)); refine blk_put (cs := #[.int .i64 ((rd_T36 l0 x9_1).f0), .int .i64 ((rd_T36 l0 x9_1).f1), .int .i64 0, .int .i64 0, .int .i64 0]) ?_ 2 _ rfl; (with_reducible repeat (first | refine blk_drewN ?_ _ | refine blk_drew ?_ | refine blk_alloc ?_ _)); refine blk_put (cs := #[.int .i64 ((rd_T36 l0 x9_1).f0), .int .i64 0, .int .i64 0, .int .i64 0, .int .i64 0]) ?_ 1 _ rfl; (with_reducible repeat (first | refine blk_drewN ?_ _ | refine blk_drew ?_ | refine blk_alloc ?_ _)); refine blk_put (cs := #[.int .i64 0, .int .i64 0, .int .i64 0, .int .i64 0, .int .i64 0]) ?_ 0 _ rfl; (with_reducible repeat (first | refine blk_drewN ?_ _ | refine blk_drew ?_ | refine blk_alloc ?_ _)); exact BK102.out) hb); have n2_ := Aside0.mk (below_step (by repeat (first | (with_reducible first | exact HB.out | apply below_alloc | apply pw_below_drewN | apply below_drew1 | refine below_set ?_ GE102.out) | exact HB.out)) hb); clear BK102; clear HB; have HO105 := n0_; have BK102 := n1_; have HB := n2_; clear n0_ n1_ n2_; clear hb ho16; obtain ⟨Ao17, co17, eo17⟩ := Kd.R_slice HO105.out; subst eo17) | (go_at_call 26; (with_reducible refine (atom_areSizes.calls k1 _ _ y103 true _ ?side1 ?side2 A7.out).mono ?_); (case side1 => repeat (first | exact (Kd.R_reads' HO105.out).2.2 | (with_reducible refine Kd.C_alloc ?_ _) | (with_reducible refine Kd.C_drewN ?_ _) | (with_reducible refine Kd.C_drew ?_))); (case side2 => exact (Kd.R_reads' HO105.out).2.1); rintro e w' ⟨rfl, ⟨nd, rfl⟩⟩; have hcz18_0 : w15.cell? ⟨gb102, 0, none⟩ = some (.int .i64 ((rd_T36 l0 x9_1).f0)) := (blk_cell BK102.out 0).trans rfl; have hcz18_1 : w15.cell? ⟨gb102, 1, none⟩ = some (.int .i64 ((rd_T36 l0 x9_1).f1)) := (blk_cell BK102.out 1).trans rfl; have hcz18_2 : w15.cell? ⟨gb102, 2, none⟩ = some (.int .i64 ((rd_T36 l0 x9_1).f2)) := (blk_cell BK102.out 2).trans rfl; have hcz18_3 : w15.cell? ⟨gb102, 3, none⟩ = some (.int .i64 ((rd_T36 l0 x9_1).f3)) := (blk_cell BK102.out 3).trans rfl; have hcz18_4 : w15.cell? ⟨gb102, 4, none⟩ = some (.int .i64 ((rd_T36 l0 x9_1).f4)) := (blk_cell BK102.out 4).trans rfl; have hfz18_0 := blk_frozen BK102.out 0; have hfz18_1 := blk_frozen BK102.out 1; have hfz18_2 := blk_frozen BK102.out 2; have hfz18_3 := blk_frozen BK102.out 3; have hfz18_4 := blk_frozen BK102.out 4))
                          go_ret
                          exact ⟨by first | rfl | (simp [errW_none, errW_some] <;> rfl) | (simp [*, errW_none, errW_some] <;> rfl), by repeat (first | (with_reducible first | exact HB.out | apply below_alloc | apply pw_below_drewN | apply below_drew1 | refine below_set ?_ GE102.out) | exact HB.out)⟩
                        · rw [if_neg c12] at H
                          have c12b0 : decide (((rd_T36 l0 x9_1).f4) < 0) = false := decide_eq_false c12
                          clear c12
                          by_cases c19 : ((rd_T36 l0 x9_1).f4) > 2
                          · rw [if_pos c19] at H
                            have c19b0 : decide (2 < ((rd_T36 l0 x9_1).f4)) = true := decide_eq_true c19
                            clear c19
                            obtain rfl := Option.some.inj H
                            have p101 : 0 ≤ (x9_1 : Int) := of_decide_eq_true (by first | (with_reducible assumption) | assumption)
                            have q101 : x9_1 < (l0.length : Int) := of_decide_eq_true (by first | (with_reducible assumption) | assumption)
                            obtain ⟨ad101, e101, hx101_0, hx101_1, hx101_2, hx101_3, hx101_4⟩ := at_T36 HR0.out x9_1 p101 q101
                            cases e101
                            replace hx101_0 := (HB.out.cell (World.block_lt_of_cell? w _ hx101_0)).trans hx101_0
                            replace hx101_1 := (HB.out.cell (World.block_lt_of_cell? w _ hx101_1)).trans hx101_1
                            replace hx101_2 := (HB.out.cell (World.block_lt_of_cell? w _ hx101_2)).trans hx101_2
                            replace hx101_3 := (HB.out.cell (World.block_lt_of_cell? w _ hx101_3)).trans hx101_3
                            replace hx101_4 := (HB.out.cell (World.block_lt_of_cell? w _ hx101_4)).trans hx101_4
                            replace p101 := eq_true p101
                            replace q101 := eq_true q101
                            go_wp2_with (first | ((with_reducible refine gate_dst (N := 4) rfl ?_); (try (refine gate_guard (by rfl) ?_; dsimp only)); refine box_event ?hg (N := 4) ?hd (cs := #[.int .i64 0, .int .i64 0, .int .i64 0, .int .i64 0, .int .i64 0]) (t := 36) ?hr ?_; (case hd => rfl); (case hg => rfl); (case hr => first | (go_simp; done) | (go_simp; rfl)); intro gb102 hg w20 hbox hb; have n0_ := Aside0.mk (below_step (by repeat (first | (with_reducible first | exact HB.out | apply below_alloc | apply pw_below_drewN | apply below_drew1) | exact HB.out)) hb); have n1_ := Aside0.mk (hbox); have n2_ := Aside0.mk ((by rw [hg]; exact (below_size (by repeat (first | (with_reducible first | exact HB.out | apply below_alloc | apply pw_below_drewN | apply below_drew1) | exact HB.out))) : w.heap.size ≤ gb102)); have n3_ := Aside0.mk ((by rw [hg]; exact (below_size (by repeat (first | (with_reducible first | exact HB.out | apply below_alloc | apply pw_below_drewN | apply below_drew1) | exact HB.out))) : w.heap.size ≤ gb102)); clear HB; have HB := n0_; have BK102 := n1_; have GW102 := n2_; have GE102 := n3_; clear n0_ n1_ n2_ n3_; clear hb hbox hg; have hcz21_0 : w20.cell? ⟨gb102, 0, none⟩ = some (.int .i64 0) := (blk_cell BK102.out 0).trans rfl; have hcz21_1 : w20.cell? ⟨gb102, 1, none⟩ = some (.int .i64 0) := (blk_cell BK102.out 1).trans rfl; have hcz21_2 : w20.cell? ⟨gb102, 2, none⟩ = some (.int .i64 0) := (blk_cell BK102.out 2).trans rfl; have hcz21_3 : w20.cell? ⟨gb102, 3, none⟩ = some (.int .i64 0) := (blk_cell BK102.out 3).trans rfl; have hcz21_4 : w20.cell? ⟨gb102, 4, none⟩ = some (.int .i64 0) := (blk_cell BK102.out 4).trans rfl; have hfz21_0 := blk_frozen BK102.out 0; have hfz21_1 := blk_frozen BK102.out 1; have hfz21_2 := blk_frozen BK102.out 2; have hfz21_3 := blk_frozen BK102.out 3; have hfz21_4 := blk_frozen BK102.out 4) | ((with_reducible refine gate_dst (N := 24) rfl ?_); (try (refine gate_guard (by rfl) ?_; dsimp only)); refine Kd.R_lit (Kd.int .i64) _ 2 ?hg (N := 24) ?hd (xs := ([(rd_T36 l0 x9_1).f3] : List Int)) (inner := [.int .i64 ((rd_T36 l0 x9_1).f3)]) (ok := fun _ => True) (okp := fun _ => True) ?hr ?hp (fun _ hk => hk) trivial (Below.refl _ _) (Nat.le_refl _) (by simp) ?_; (case hd => rfl); (case hg => rfl); (case hr => first | (go_simp; done) | (go_simp; rfl)); (case hp => exact (Reps.one (show Kd.M (Kd.int .i64) _ _ _ ((rd_T36 l0 x9_1).f3) [.int .i64 ((rd_T36 l0 x9_1).f3)] from rfl) (Reps.none _ _))); intro v104 w22 ho23 hb hg_ hnew_; clear hg_ hnew_; (first | rw [← Ny103.out] at ho23 | (simp only [Int.reduceToNat] at ho23; rw [← Ny103.out] at ho23)); have n0_ := Aside0.mk (Kd.R_lower ho23 (below_size (by repeat (first | (with_reducible first | exact HB.out | apply below_alloc | apply pw_below_drewN | apply below_drew1 | refine below_set ?_ GE102.out) | exact HB.out)))); have n1_ := Aside0.mk (blk_below (g := gb102) (o := .cells #[.int .i64 ((rd_T36 l0 x9_1).f0), .int .i64 ((rd_T36 l0 x9_1).f1), .int .i64 ((rd_T36 l0 x9_1).f2), .int .i64 ((rd_T36 l0 x9_1).f3), .int .i64 ((rd_T36 l0 x9_1).f4)] 36 (0, 0)) (by (with_reducible repeat (first | refine blk_drewN ?_ _ | refine blk_drew ?_ | refine blk_alloc ?_ _)); refine blk_put (cs := #[.int .i64 ((rd_T36 l0 x9_1).f0), .int .i64 ((rd_T36 l0 x9_1).f1), .int .i64 ((rd_T36 l0 x9_1).f2), .int .i64 ((rd_T36 l0 x9_1).f3), .int .i64 0]) ?_ 4 _ rfl; (with_reducible repeat (first | refine blk_drewN ?_ _ | refine blk_drew ?_ | refine blk_alloc ?_ _)); refine blk_put (cs := #[.int .i64 ((rd_T36 l0 x9_1).f0), .int .i64 ((rd_T36 l0 x9_1).f1), .int .i64 ((rd_T36 l0 x9_1).f2), .int .i64 0, .int .i64 0]) ?_ 3 _ rfl; (with_reducible repeat (first | refine blk_drewN ?_ _ | refine blk_drew ?_ | refine blk_alloc ?_ _)); refine blk_put (cs := #[.int .i64 ((rd_T36 l0 x9_1).f0), .int .i64 ((rd_T36 l0 x9_1).f1), .int .i64 0, .int .i64 0, .int .i64 0]) ?_ 2 _ rfl; (with_reducible repeat (first | refine blk_drewN ?_ _ | refine blk_drew ?_ | refine blk_alloc ?_ _)); refine blk_put (cs := #[.int .i64 ((rd_T36 l0 x9_1).f0), .int .i64 0, .int .i64 0, .int .i64 0, .int .i64 0]) ?_ 1 _ rfl; (with_reducible repeat (first | refine blk_drewN ?_ _ | refine blk_drew ?_ | refine blk_alloc ?_ _)); refine blk_put (cs := #[.int .i64 0, .int .i64 0, .int .i64 0, .int .i64 0, .int .i64 0]) ?_ 0 _ rfl; (with_reducible repeat (first | refine blk_drewN ?_ _ | refine blk_drew ?_ | refine blk_alloc ?_ _)); exact BK102.out) hb); have n2_ := Aside0.mk (below_step (by repeat (first | (with_reducible first | exact HB.out | apply below_alloc | apply pw_below_drewN | apply below_drew1 | refine below_set ?_ GE102.out) | exact HB.out)) hb); clear BK102; clear HB; have HO105 := n0_; have BK102 := n1_; have HB := n2_; clear n0_ n1_ n2_; clear hb ho23; obtain ⟨Ao24, co24, eo24⟩ := Kd.R_slice HO105.out; subst eo24) | (go_at_call 26; (with_reducible refine (atom_areSizes.calls k1 _ _ y103 true _ ?side1 ?side2 A7.out).mono ?_); (case side1 => repeat (first | exact (Kd.R_reads' HO105.out).2.2 | (with_reducible refine Kd.C_alloc ?_ _) | (with_reducible refine Kd.C_drewN ?_ _) | (with_reducible refine Kd.C_drew ?_))); (case side2 => exact (Kd.R_reads' HO105.out).2.1); rintro e w' ⟨rfl, ⟨nd, rfl⟩⟩; have hcz25_0 : w22.cell? ⟨gb102, 0, none⟩ = some (.int .i64 ((rd_T36 l0 x9_1).f0)) := (blk_cell BK102.out 0).trans rfl; have hcz25_1 : w22.cell? ⟨gb102, 1, none⟩ = some (.int .i64 ((rd_T36 l0 x9_1).f1)) := (blk_cell BK102.out 1).trans rfl; have hcz25_2 : w22.cell? ⟨gb102, 2, none⟩ = some (.int .i64 ((rd_T36 l0 x9_1).f2)) := (blk_cell BK102.out 2).trans rfl; have hcz25_3 : w22.cell? ⟨gb102, 3, none⟩ = some (.int .i64 ((rd_T36 l0 x9_1).f3)) := (blk_cell BK102.out 3).trans rfl; have hcz25_4 : w22.cell? ⟨gb102, 4, none⟩ = some (.int .i64 ((rd_T36 l0 x9_1).f4)) := (blk_cell BK102.out 4).trans rfl; have hfz25_0 := blk_frozen BK102.out 0; have hfz25_1 := blk_frozen BK102.out 1; have hfz25_2 := blk_frozen BK102.out 2; have hfz25_3 := blk_frozen BK102.out 3; have hfz25_4 := blk_frozen BK102.out 4))
                            go_ret
                            exact ⟨by first | rfl | (simp [errW_none, errW_some] <;> rfl) | (simp [*, errW_none, errW_some] <;> rfl), by repeat (first | (with_reducible first | exact HB.out | apply below_alloc | apply pw_below_drewN | apply below_drew1 | refine below_set ?_ GE102.out) | exact HB.out)⟩
                          · rw [if_neg c19] at H
                            have c19b0 : decide (2 < ((rd_T36 l0 x9_1).f4)) = false := decide_eq_false c19
                            clear c19
                            have H' := Aside0.mk H
                            clear H
                            have p101 : 0 ≤ (x9_1 : Int) := of_decide_eq_true (by first | (with_reducible assumption) | assumption)
                            have q101 : x9_1 < (l0.length : Int) := of_decide_eq_true (by first | (with_reducible assumption) | assumption)
                            obtain ⟨ad101, e101, hx101_0, hx101_1, hx101_2, hx101_3, hx101_4⟩ := at_T36 HR0.out x9_1 p101 q101
                            cases e101
                            replace hx101_0 := (HB.out.cell (World.block_lt_of_cell? w _ hx101_0)).trans hx101_0
                            replace hx101_1 := (HB.out.cell (World.block_lt_of_cell? w _ hx101_1)).trans hx101_1
                            replace hx101_2 := (HB.out.cell (World.block_lt_of_cell? w _ hx101_2)).trans hx101_2
                            replace hx101_3 := (HB.out.cell (World.block_lt_of_cell? w _ hx101_3)).trans hx101_3
                            replace hx101_4 := (HB.out.cell (World.block_lt_of_cell? w _ hx101_4)).trans hx101_4
                            replace p101 := eq_true p101
                            replace q101 := eq_true q101
                            go_wp2_with (first | ((with_reducible refine gate_dst (N := 4) rfl ?_); (try (refine gate_guard (by rfl) ?_; dsimp only)); refine box_event ?hg (N := 4) ?hd (cs := #[.int .i64 0, .int .i64 0, .int .i64 0, .int .i64 0, .int .i64 0]) (t := 36) ?hr ?_; (case hd => rfl); (case hg => rfl); (case hr => first | (go_simp; done) | (go_simp; rfl)); intro gb102 hg w26 hbox hb; have n0_ := Aside0.mk (below_step (by repeat (first | (with_reducible first | exact HB.out | apply below_alloc | apply pw_below_drewN | apply below_drew1) | exact HB.out)) hb); have n1_ := Aside0.mk (hbox); have n2_ := Aside0.mk ((by rw [hg]; exact (below_size (by repeat (first | (with_reducible first | exact HB.out | apply below_alloc | apply pw_below_drewN | apply below_drew1) | exact HB.out))) : w.heap.size ≤ gb102)); have n3_ := Aside0.mk ((by rw [hg]; exact (below_size (by repeat (first | (with_reducible first | exact HB.out | apply below_alloc | apply pw_below_drewN | apply below_drew1) | exact HB.out))) : w.heap.size ≤ gb102)); clear HB; have HB := n0_; have BK102 := n1_; have GW102 := n2_; have GE102 := n3_; clear n0_ n1_ n2_ n3_; clear hb hbox hg; have hcz27_0 : w26.cell? ⟨gb102, 0, none⟩ = some (.int .i64 0) := (blk_cell BK102.out 0).trans rfl; have hcz27_1 : w26.cell? ⟨gb102, 1, none⟩ = some (.int .i64 0) := (blk_cell BK102.out 1).trans rfl; have hcz27_2 : w26.cell? ⟨gb102, 2, none⟩ = some (.int .i64 0) := (blk_cell BK102.out 2).trans rfl; have hcz27_3 : w26.cell? ⟨gb102, 3, none⟩ = some (.int .i64 0) := (blk_cell BK102.out 3).trans rfl; have hcz27_4 : w26.cell? ⟨gb102, 4, none⟩ = some (.int .i64 0) := (blk_cell BK102.out 4).trans rfl; have hfz27_0 := blk_frozen BK102.out 0; have hfz27_1 := blk_frozen BK102.out 1; have hfz27_2 := blk_frozen BK102.out 2; have hfz27_3 := blk_frozen BK102.out 3; have hfz27_4 := blk_frozen BK102.out 4) | ((with_reducible refine gate_dst (N := 24) rfl ?_); (try (refine gate_guard (by rfl) ?_; dsimp only)); refine Kd.R_lit (Kd.int .i64) _ 2 ?hg (N := 24) ?hd (xs := ([(rd_T36 l0 x9_1).f3] : List Int)) (inner := [.int .i64 ((rd_T36 l0 x9_1).f3)]) (ok := fun _ => True) (okp := fun _ => True) ?hr ?hp (fun _ hk => hk) trivial (Below.refl _ _) (Nat.le_refl _) (by simp) ?_; (case hd => rfl); (case hg => rfl); (case hr => first | (go_simp; done) | (go_simp; rfl)); (case hp => exact (Reps.one (show Kd.M (Kd.int .i64) _ _ _ ((rd_T36 l0 x9_1).f3) [.int .i64 ((rd_T36 l0 x9_1).f3)] from rfl) (Reps.none _ _))); intro v104 w28 ho29 hb hg_ hnew_; clear hg_ hnew_; (first | rw [← Ny103.out] at ho29 | (simp only [Int.reduceToNat] at ho29; rw [← Ny103.out] at ho29)); have n0_ := Aside0.mk (Kd.R_lower ho29 (below_size (by repeat (first | (with_reducible first | exact HB.out | apply below_alloc | apply pw_below_drewN | apply below_drew1 | refine below_set ?_ GE102.out) | exact HB.out)))); have n1_ := Aside0.mk (blk_below (g := gb102) (o := .cells #[.int .i64 ((rd_T36 l0 x9_1).f0), .int .i64 ((rd_T36 l0 x9_1).f1), .int .i64 ((rd_T36 l0 x9_1).f2), .int .i64 ((rd_T36 l0 x9_1).f3), .int .i64 ((rd_T36 l0 x9_1).f4)] 36 (0, 0)) (by (with_reducible repeat (first | refine blk_drewN ?_ _ | refine blk_drew ?_ | refine blk_alloc ?_ _)); refine blk_put (cs := #[.int .i64 ((rd_T36 l0 x9_1).f0), .int .i64 ((rd_T36 l0 x9_1).f1), .int .i64 ((rd_T36 l0 x9_1).f2), .int .i64 ((rd_T36 l0 x9_1).f3), .int .i64 0]) ?_ 4 _ rfl; (with_reducible repeat (first | refine blk_drewN ?_ _ | refine blk_drew ?_ | refine blk_alloc ?_ _)); refine blk_put (cs := #[.int .i64 ((rd_T36 l0 x9_1).f0), .int .i64 ((rd_T36 l0 x9_1).f1), .int .i64 ((rd_T36 l0 x9_1).f2), .int .i64 0, .int .i64 0]) ?_ 3 _ rfl; (with_reducible repeat (first | refine blk_drewN ?_ _ | refine blk_drew ?_ | refine blk_alloc ?_ _)); refine blk_put (cs := #[.int .i64 ((rd_T36 l0 x9_1).f0), .int .i64 ((rd_T36 l0 x9_1).f1), .int .i64 0, .int .i64 0, .int .i64 0]) ?_ 2 _ rfl; (with_reducible repeat (first | refine blk_drewN ?_ _ | refine blk_drew ?_ | refine blk_alloc ?_ _)); refine blk_put (cs := #[.int .i64 ((rd_T36 l0 x9_1).f0), .int .i64 0, .int .i64 0, .int .i64 0, .int .i64 0]) ?_ 1 _ rfl; (with_reducible repeat (first | refine blk_drewN ?_ _ | refine blk_drew ?_ | refine blk_alloc ?_ _)); refine blk_put (cs := #[.int .i64 0, .int .i64 0, .int .i64 0, .int .i64 0, .int .i64 0]) ?_ 0 _ rfl; (with_reducible repeat (first | refine blk_drewN ?_ _ | refine blk_drew ?_ | refine blk_alloc ?_ _)); exact BK102.out) hb); have n2_ := Aside0.mk (below_step (by repeat (first | (with_reducible first | exact HB.out | apply below_alloc | apply pw_below_drewN | apply below_drew1 | refine below_set ?_ GE102.out) | exact HB.out)) hb); clear BK102; clear HB; have HO105 := n0_; have BK102 := n1_; have HB := n2_; clear n0_ n1_ n2_; clear hb ho29; obtain ⟨Ao30, co30, eo30⟩ := Kd.R_slice HO105.out; subst eo30) | (go_at_call 26; (with_reducible refine (atom_areSizes.calls k1 _ _ y103 true _ ?side1 ?side2 A7.out).mono ?_); (case side1 => repeat (first | exact (Kd.R_reads' HO105.out).2.2 | (with_reducible refine Kd.C_alloc ?_ _) | (with_reducible refine Kd.C_drewN ?_ _) | (with_reducible refine Kd.C_drew ?_))); (case side2 => exact (Kd.R_reads' HO105.out).2.1); rintro e w' ⟨rfl, ⟨nd, rfl⟩⟩; have hcz31_0 : w28.cell? ⟨gb102, 0, none⟩ = some (.int .i64 ((rd_T36 l0 x9_1).f0)) := (blk_cell BK102.out 0).trans rfl; have hcz31_1 : w28.cell? ⟨gb102, 1, none⟩ = some (.int .i64 ((rd_T36 l0 x9_1).f1)) := (blk_cell BK102.out 1).trans rfl; have hcz31_2 : w28.cell? ⟨gb102, 2, none⟩ = some (.int .i64 ((rd_T36 l0 x9_1).f2)) := (blk_cell BK102.out 2).trans rfl; have hcz31_3 : w28.cell? ⟨gb102, 3, none⟩ = some (.int .i64 ((rd_T36 l0 x9_1).f3)) := (blk_cell BK102.out 3).trans rfl; have hcz31_4 : w28.cell? ⟨gb102, 4, none⟩ = some (.int .i64 ((rd_T36 l0 x9_1).f4)) := (blk_cell BK102.out 4).trans rfl; have hfz31_0 := blk_frozen BK102.out 0; have hfz31_1 := blk_frozen BK102.out 1; have hfz31_2 := blk_frozen BK102.out 2; have hfz31_3 := blk_frozen BK102.out 3; have hfz31_4 := blk_frozen BK102.out 4))
                            go_roundg k1
                            case measure => have := HK1.out; omega
                            case rel => exact ⟨(wrap64 (x9_1 + 1)), (by first | rfl | (simp; done) | (simp [*]; done)), H', ⟨by have := HK1.out; omega⟩, ⟨by repeat (first | (with_reducible first | exact HB.out | apply below_alloc | apply pw_below_drewN | apply below_drew1 | refine below_set ?_ GE102.out) | exact HB.out)⟩⟩
                      · rw [if_neg c11] at H
                        have c11b0 : decide (0 ≤ ((rd_T36 l0 x9_1).f1)) = false := decide_eq_false c11
                        clear c11
                        obtain rfl := Option.some.inj H
                        have p101 : 0 ≤ (x9_1 : Int) := of_decide_eq_true (by first | (with_reducible assumption) | assumption)
                        have q101 : x9_1 < (l0.length : Int) := of_decide_eq_true (by first | (with_reducible assumption) | assumption)
                        obtain ⟨ad101, e101, hx101_0, hx101_1, hx101_2, hx101_3, hx101_4⟩ := at_T36 HR0.out x9_1 p101 q101
                        cases e101
                        replace hx101_0 := (HB.out.cell (World.block_lt_of_cell? w _ hx101_0)).trans hx101_0
                        replace hx101_1 := (HB.out.cell (World.block_lt_of_cell? w _ hx101_1)).trans hx101_1
                        replace hx101_2 := (HB.out.cell (World.block_lt_of_cell? w _ hx101_2)).trans hx101_2
                        replace hx101_3 := (HB.out.cell (World.block_lt_of_cell? w _ hx101_3)).trans hx101_3
                        replace hx101_4 := (HB.out.cell (World.block_lt_of_cell? w _ hx101_4)).trans hx101_4
                        replace p101 := eq_true p101
                        replace q101 := eq_true q101
                        go_wp2_with (first | ((with_reducible refine gate_dst (N := 4) rfl ?_); (try (refine gate_guard (by rfl) ?_; dsimp only)); refine box_event ?hg (N := 4) ?hd (cs := #[.int .i64 0, .int .i64 0, .int .i64 0, .int .i64 0, .int .i64 0]) (t := 36) ?hr ?_; (case hd => rfl); (case hg => rfl); (case hr => first | (go_simp; done) | (go_simp; rfl)); intro gb102 hg w32 hbox hb; have n0_ := Aside0.mk (below_step (by repeat (first | (with_reducible first | exact HB.out | apply below_alloc | apply pw_below_drewN | apply below_drew1) | exact HB.out)) hb); have n1_ := Aside0.mk (hbox); have n2_ := Aside0.mk ((by rw [hg]; exact (below_size (by repeat (first | (with_reducible first | exact HB.out | apply below_alloc | apply pw_below_drewN | apply below_drew1) | exact HB.out))) : w.heap.size ≤ gb102)); have n3_ := Aside0.mk ((by rw [hg]; exact (below_size (by repeat (first | (with_reducible first | exact HB.out | apply below_alloc | apply pw_below_drewN | apply below_drew1) | exact HB.out))) : w.heap.size ≤ gb102)); clear HB; have HB := n0_; have BK102 := n1_; have GW102 := n2_; have GE102 := n3_; clear n0_ n1_ n2_ n3_; clear hb hbox hg; have hcz33_0 : w32.cell? ⟨gb102, 0, none⟩ = some (.int .i64 0) := (blk_cell BK102.out 0).trans rfl; have hcz33_1 : w32.cell? ⟨gb102, 1, none⟩ = some (.int .i64 0) := (blk_cell BK102.out 1).trans rfl; have hcz33_2 : w32.cell? ⟨gb102, 2, none⟩ = some (.int .i64 0) := (blk_cell BK102.out 2).trans rfl; have hcz33_3 : w32.cell? ⟨gb102, 3, none⟩ = some (.int .i64 0) := (blk_cell BK102.out 3).trans rfl; have hcz33_4 : w32.cell? ⟨gb102, 4, none⟩ = some (.int .i64 0) := (blk_cell BK102.out 4).trans rfl; have hfz33_0 := blk_frozen BK102.out 0; have hfz33_1 := blk_frozen BK102.out 1; have hfz33_2 := blk_frozen BK102.out 2; have hfz33_3 := blk_frozen BK102.out 3; have hfz33_4 := blk_frozen BK102.out 4) | ((with_reducible refine gate_dst (N := 24) rfl ?_); (try (refine gate_guard (by rfl) ?_; dsimp only)); refine Kd.R_lit (Kd.int .i64) _ 2 ?hg (N := 24) ?hd (xs := ([(rd_T36 l0 x9_1).f3] : List Int)) (inner := [.int .i64 ((rd_T36 l0 x9_1).f3)]) (ok := fun _ => True) (okp := fun _ => True) ?hr ?hp (fun _ hk => hk) trivial (Below.refl _ _) (Nat.le_refl _) (by simp) ?_; (case hd => rfl); (case hg => rfl); (case hr => first | (go_simp; done) | (go_simp; rfl)); (case hp => exact (Reps.one (show Kd.M (Kd.int .i64) _ _ _ ((rd_T36 l0 x9_1).f3) [.int .i64 ((rd_T36 l0 x9_1).f3)] from rfl) (Reps.none _ _))); intro v104 w34 ho35 hb hg_ hnew_; clear hg_ hnew_; (first | rw [← Ny103.out] at ho35 | (simp only [Int.reduceToNat] at ho35; rw [← Ny103.out] at ho35)); have n0_ := Aside0.mk (Kd.R_lower ho35 (below_size (by repeat (first | (with_reducible first | exact HB.out | apply below_alloc | apply pw_below_drewN | apply below_drew1 | refine below_set ?_ GE102.out) | exact HB.out)))); have n1_ := Aside0.mk (blk_below (g := gb102) (o := .cells #[.int .i64 ((rd_T36 l0 x9_1).f0), .int .i64 ((rd_T36 l0 x9_1).f1), .int .i64 ((rd_T36 l0 x9_1).f2), .int .i64 ((rd_T36 l0 x9_1).f3), .int .i64 ((rd_T36 l0 x9_1).f4)] 36 (0, 0)) (by (with_reducible repeat (first | refine blk_drewN ?_ _ | refine blk_drew ?_ | refine blk_alloc ?_ _)); refine blk_put (cs := #[.int .i64 ((rd_T36 l0 x9_1).f0), .int .i64 ((rd_T36 l0 x9_1).f1), .int .i64 ((rd_T36 l0 x9_1).f2), .int .i64 ((rd_T36 l0 x9_1).f3), .int .i64 0]) ?_ 4 _ rfl; (with_reducible repeat (first | refine blk_drewN ?_ _ | refine blk_drew ?_ | refine blk_alloc ?_ _)); refine blk_put (cs := #[.int .i64 ((rd_T36 l0 x9_1).f0), .int .i64 ((rd_T36 l0 x9_1).f1), .int .i64 ((rd_T36 l0 x9_1).f2), .int .i64 0, .int .i64 0]) ?_ 3 _ rfl; (with_reducible repeat (first | refine blk_drewN ?_ _ | refine blk_drew ?_ | refine blk_alloc ?_ _)); refine blk_put (cs := #[.int .i64 ((rd_T36 l0 x9_1).f0), .int .i64 ((rd_T36 l0 x9_1).f1), .int .i64 0, .int .i64 0, .int .i64 0]) ?_ 2 _ rfl; (with_reducible repeat (first | refine blk_drewN ?_ _ | refine blk_drew ?_ | refine blk_alloc ?_ _)); refine blk_put (cs := #[.int .i64 ((rd_T36 l0 x9_1).f0), .int .i64 0, .int .i64 0, .int .i64 0, .int .i64 0]) ?_ 1 _ rfl; (with_reducible repeat (first | refine blk_drewN ?_ _ | refine blk_drew ?_ | refine blk_alloc ?_ _)); refine blk_put (cs := #[.int .i64 0, .int .i64 0, .int .i64 0, .int .i64 0, .int .i64 0]) ?_ 0 _ rfl; (with_reducible repeat (first | refine blk_drewN ?_ _ | refine blk_drew ?_ | refine blk_alloc ?_ _)); exact BK102.out) hb); have n2_ := Aside0.mk (below_step (by repeat (first | (with_reducible first | exact HB.out | apply below_alloc | apply pw_below_drewN | apply below_drew1 | refine below_set ?_ GE102.out) | exact HB.out)) hb); clear BK102; clear HB; have HO105 := n0_; have BK102 := n1_; have HB := n2_; clear n0_ n1_ n2_; clear hb ho35; obtain ⟨Ao36, co36, eo36⟩ := Kd.R_slice HO105.out; subst eo36) | (go_at_call 26; (with_reducible refine (atom_areSizes.calls k1 _ _ y103 true _ ?side1 ?side2 A7.out).mono ?_); (case side1 => repeat (first | exact (Kd.R_reads' HO105.out).2.2 | (with_reducible refine Kd.C_alloc ?_ _) | (with_reducible refine Kd.C_drewN ?_ _) | (with_reducible refine Kd.C_drew ?_))); (case side2 => exact (Kd.R_reads' HO105.out).2.1); rintro e w' ⟨rfl, ⟨nd, rfl⟩⟩; have hcz37_0 : w34.cell? ⟨gb102, 0, none⟩ = some (.int .i64 ((rd_T36 l0 x9_1).f0)) := (blk_cell BK102.out 0).trans rfl; have hcz37_1 : w34.cell? ⟨gb102, 1, none⟩ = some (.int .i64 ((rd_T36 l0 x9_1).f1)) := (blk_cell BK102.out 1).trans rfl; have hcz37_2 : w34.cell? ⟨gb102, 2, none⟩ = some (.int .i64 ((rd_T36 l0 x9_1).f2)) := (blk_cell BK102.out 2).trans rfl; have hcz37_3 : w34.cell? ⟨gb102, 3, none⟩ = some (.int .i64 ((rd_T36 l0 x9_1).f3)) := (blk_cell BK102.out 3).trans rfl; have hcz37_4 : w34.cell? ⟨gb102, 4, none⟩ = some (.int .i64 ((rd_T36 l0 x9_1).f4)) := (blk_cell BK102.out 4).trans rfl; have hfz37_0 := blk_frozen BK102.out 0; have hfz37_1 := blk_frozen BK102.out 1; have hfz37_2 := blk_frozen BK102.out 2; have hfz37_3 := blk_frozen BK102.out 3; have hfz37_4 := blk_frozen BK102.out 4))
                        go_ret
                        exact ⟨by first | rfl | (simp [errW_none, errW_some] <;> rfl) | (simp [*, errW_none, errW_some] <;> rfl), by repeat (first | (with_reducible first | exact HB.out | apply below_alloc | apply pw_below_drewN | apply below_drew1 | refine below_set ?_ GE102.out) | exact HB.out)⟩
                    · replace c10 := Bool.eq_false_iff.mpr c10
                      subst c10
                      have H1 : (some false) = some r := by rw [if_neg (show ¬ (false = true) by decide)] at H; exact H
                      clear H
                      have H := H1
                      clear H1
                      obtain rfl := Option.some.inj H
                      have p101 : 0 ≤ (x9_1 : Int) := of_decide_eq_true (by first | (with_reducible assumption) | assumption)
                      have q101 : x9_1 < (l0.length : Int) := of_decide_eq_true (by first | (with_reducible assumption) | assumption)
                      obtain ⟨ad101, e101, hx101_0, hx101_1, hx101_2, hx101_3, hx101_4⟩ := at_T36 HR0.out x9_1 p101 q101
                      cases e101
                      replace hx101_0 := (HB.out.cell (World.block_lt_of_cell? w _ hx101_0)).trans hx101_0
                      replace hx101_1 := (HB.out.cell (World.block_lt_of_cell? w _ hx101_1)).trans hx101_1
                      replace hx101_2 := (HB.out.cell (World.block_lt_of_cell? w _ hx101_2)).trans hx101_2
                      replace hx101_3 := (HB.out.cell (World.block_lt_of_cell? w _ hx101_3)).trans hx101_3
                      replace hx101_4 := (HB.out.cell (World.block_lt_of_cell? w _ hx101_4)).trans hx101_4
                      replace p101 := eq_true p101
                      replace q101 := eq_true q101
                      go_wp2_with (first | ((with_reducible refine gate_dst (N := 4) rfl ?_); (try (refine gate_guard (by rfl) ?_; dsimp only)); refine box_event ?hg (N := 4) ?hd (cs := #[.int .i64 0, .int .i64 0, .int .i64 0, .int .i64 0, .int .i64 0]) (t := 36) ?hr ?_; (case hd => rfl); (case hg => rfl); (case hr => first | (go_simp; done) | (go_simp; rfl)); intro gb102 hg w38 hbox hb; have n0_ := Aside0.mk (below_step (by repeat (first | (with_reducible first | exact HB.out | apply below_alloc | apply pw_below_drewN | apply below_drew1) | exact HB.out)) hb); have n1_ := Aside0.mk (hbox); have n2_ := Aside0.mk ((by rw [hg]; exact (below_size (by repeat (first | (with_reducible first | exact HB.out | apply below_alloc | apply pw_below_drewN | apply below_drew1) | exact HB.out))) : w.heap.size ≤ gb102)); have n3_ := Aside0.mk ((by rw [hg]; exact (below_size (by repeat (first | (with_reducible first | exact HB.out | apply below_alloc | apply pw_below_drewN | apply below_drew1) | exact HB.out))) : w.heap.size ≤ gb102)); clear HB; have HB := n0_; have BK102 := n1_; have GW102 := n2_; have GE102 := n3_; clear n0_ n1_ n2_ n3_; clear hb hbox hg; have hcz39_0 : w38.cell? ⟨gb102, 0, none⟩ = some (.int .i64 0) := (blk_cell BK102.out 0).trans rfl; have hcz39_1 : w38.cell? ⟨gb102, 1, none⟩ = some (.int .i64 0) := (blk_cell BK102.out 1).trans rfl; have hcz39_2 : w38.cell? ⟨gb102, 2, none⟩ = some (.int .i64 0) := (blk_cell BK102.out 2).trans rfl; have hcz39_3 : w38.cell? ⟨gb102, 3, none⟩ = some (.int .i64 0) := (blk_cell BK102.out 3).trans rfl; have hcz39_4 : w38.cell? ⟨gb102, 4, none⟩ = some (.int .i64 0) := (blk_cell BK102.out 4).trans rfl; have hfz39_0 := blk_frozen BK102.out 0; have hfz39_1 := blk_frozen BK102.out 1; have hfz39_2 := blk_frozen BK102.out 2; have hfz39_3 := blk_frozen BK102.out 3; have hfz39_4 := blk_frozen BK102.out 4) | ((with_reducible refine gate_dst (N := 24) rfl ?_); (try (refine gate_guard (by rfl) ?_; dsimp only)); refine Kd.R_lit (Kd.int .i64) _ 2 ?hg (N := 24) ?hd (xs := ([(rd_T36 l0 x9_1).f3] : List Int)) (inner := [.int .i64 ((rd_T36 l0 x9_1).f3)]) (ok := fun _ => True) (okp := fun _ => True) ?hr ?hp (fun _ hk => hk) trivial (Below.refl _ _) (Nat.le_refl _) (by simp) ?_; (case hd => rfl); (case hg => rfl); (case hr => first | (go_simp; done) | (go_simp; rfl)); (case hp => exact (Reps.one (show Kd.M (Kd.int .i64) _ _ _ ((rd_T36 l0 x9_1).f3) [.int .i64 ((rd_T36 l0 x9_1).f3)] from rfl) (Reps.none _ _))); intro v104 w40 ho41 hb hg_ hnew_; clear hg_ hnew_; (first | rw [← Ny103.out] at ho41 | (simp only [Int.reduceToNat] at ho41; rw [← Ny103.out] at ho41)); have n0_ := Aside0.mk (Kd.R_lower ho41 (below_size (by repeat (first | (with_reducible first | exact HB.out | apply below_alloc | apply pw_below_drewN | apply below_drew1 | refine below_set ?_ GE102.out) | exact HB.out)))); have n1_ := Aside0.mk (blk_below (g := gb102) (o := .cells #[.int .i64 ((rd_T36 l0 x9_1).f0), .int .i64 ((rd_T36 l0 x9_1).f1), .int .i64 ((rd_T36 l0 x9_1).f2), .int .i64 ((rd_T36 l0 x9_1).f3), .int .i64 ((rd_T36 l0 x9_1).f4)] 36 (0, 0)) (by (with_reducible repeat (first | refine blk_drewN ?_ _ | refine blk_drew ?_ | refine blk_alloc ?_ _)); refine blk_put (cs := #[.int .i64 ((rd_T36 l0 x9_1).f0), .int .i64 ((rd_T36 l0 x9_1).f1), .int .i64 ((rd_T36 l0 x9_1).f2), .int .i64 ((rd_T36 l0 x9_1).f3), .int .i64 0]) ?_ 4 _ rfl; (with_reducible repeat (first | refine blk_drewN ?_ _ | refine blk_drew ?_ | refine blk_alloc ?_ _)); refine blk_put (cs := #[.int .i64 ((rd_T36 l0 x9_1).f0), .int .i64 ((rd_T36 l0 x9_1).f1), .int .i64 ((rd_T36 l0 x9_1).f2), .int .i64 0, .int .i64 0]) ?_ 3 _ rfl; (with_reducible repeat (first | refine blk_drewN ?_ _ | refine blk_drew ?_ | refine blk_alloc ?_ _)); refine blk_put (cs := #[.int .i64 ((rd_T36 l0 x9_1).f0), .int .i64 ((rd_T36 l0 x9_1).f1), .int .i64 0, .int .i64 0, .int .i64 0]) ?_ 2 _ rfl; (with_reducible repeat (first | refine blk_drewN ?_ _ | refine blk_drew ?_ | refine blk_alloc ?_ _)); refine blk_put (cs := #[.int .i64 ((rd_T36 l0 x9_1).f0), .int .i64 0, .int .i64 0, .int .i64 0, .int .i64 0]) ?_ 1 _ rfl; (with_reducible repeat (first | refine blk_drewN ?_ _ | refine blk_drew ?_ | refine blk_alloc ?_ _)); refine blk_put (cs := #[.int .i64 0, .int .i64 0, .int .i64 0, .int .i64 0, .int .i64 0]) ?_ 0 _ rfl; (with_reducible repeat (first | refine blk_drewN ?_ _ | refine blk_drew ?_ | refine blk_alloc ?_ _)); exact BK102.out) hb); have n2_ := Aside0.mk (below_step (by repeat (first | (with_reducible first | exact HB.out | apply below_alloc | apply pw_below_drewN | apply below_drew1 | refine below_set ?_ GE102.out) | exact HB.out)) hb); clear BK102; clear HB; have HO105 := n0_; have BK102 := n1_; have HB := n2_; clear n0_ n1_ n2_; clear hb ho41; obtain ⟨Ao42, co42, eo42⟩ := Kd.R_slice HO105.out; subst eo42) | (go_at_call 26; (with_reducible refine (atom_areSizes.calls k1 _ _ y103 false _ ?side1 ?side2 A7.out).mono ?_); (case side1 => repeat (first | exact (Kd.R_reads' HO105.out).2.2 | (with_reducible refine Kd.C_alloc ?_ _) | (with_reducible refine Kd.C_drewN ?_ _) | (with_reducible refine Kd.C_drew ?_))); (case side2 => exact (Kd.R_reads' HO105.out).2.1); rintro e w' ⟨rfl, ⟨nd, rfl⟩⟩; have hcz43_0 : w40.cell? ⟨gb102, 0, none⟩ = some (.int .i64 ((rd_T36 l0 x9_1).f0)) := (blk_cell BK102.out 0).trans rfl; have hcz43_1 : w40.cell? ⟨gb102, 1, none⟩ = some (.int .i64 ((rd_T36 l0 x9_1).f1)) := (blk_cell BK102.out 1).trans rfl; have hcz43_2 : w40.cell? ⟨gb102, 2, none⟩ = some (.int .i64 ((rd_T36 l0 x9_1).f2)) := (blk_cell BK102.out 2).trans rfl; have hcz43_3 : w40.cell? ⟨gb102, 3, none⟩ = some (.int .i64 ((rd_T36 l0 x9_1).f3)) := (blk_cell BK102.out 3).trans rfl; have hcz43_4 : w40.cell? ⟨gb102, 4, none⟩ = some (.int .i64 ((rd_T36 l0 x9_1).f4)) := (blk_cell BK102.out 4).trans rfl; have hfz43_0 := blk_frozen BK102.out 0; have hfz43_1 := blk_frozen BK102.out 1; have hfz43_2 := blk_frozen BK102.out 2; have hfz43_3 := blk_frozen BK102.out 3; have hfz43_4 := blk_frozen BK102.out 4))
                      go_ret
                      exact ⟨by first | rfl | (simp [errW_none, errW_some] <;> rfl) | (simp [*, errW_none, errW_some] <;> rfl), by repeat (first | (with_reducible first | exact HB.out | apply below_alloc | apply pw_below_drewN | apply below_drew1 | refine below_set ?_ GE102.out) | exact HB.out)⟩
                  · rw [if_neg c9] at H
                    have c9b0 : decide (((rd_T36 l0 x9_1).f0) < 200) = false := decide_eq_false c9
                    clear c9
                    by_cases c44 : t106 = true
                    · subst c44
                      have H1 : (some false) = some r := by rw [if_pos rfl] at H; exact H
                      clear H
                      have H := H1
                      clear H1
                      obtain rfl := Option.some.inj H
                      have p101 : 0 ≤ (x9_1 : Int) := of_decide_eq_true (by first | (with_reducible assumption) | assumption)
                      have q101 : x9_1 < (l0.length : Int) := of_decide_eq_true (by first | (with_reducible assumption) | assumption)
                      obtain ⟨ad101, e101, hx101_0, hx101_1, hx101_2, hx101_3, hx101_4⟩ := at_T36 HR0.out x9_1 p101 q101
                      cases e101
                      replace hx101_0 := (HB.out.cell (World.block_lt_of_cell? w _ hx101_0)).trans hx101_0
                      replace hx101_1 := (HB.out.cell (World.block_lt_of_cell? w _ hx101_1)).trans hx101_1
                      replace hx101_2 := (HB.out.cell (World.block_lt_of_cell? w _ hx101_2)).trans hx101_2
                      replace hx101_3 := (HB.out.cell (World.block_lt_of_cell? w _ hx101_3)).trans hx101_3
                      replace hx101_4 := (HB.out.cell (World.block_lt_of_cell? w _ hx101_4)).trans hx101_4
                      replace p101 := eq_true p101
                      replace q101 := eq_true q101
                      go_wp2_with (first | ((with_reducible refine gate_dst (N := 4) rfl ?_); (try (refine gate_guard (by rfl) ?_; dsimp only)); refine box_event ?hg (N := 4) ?hd (cs := #[.int .i64 0, .int .i64 0, .int .i64 0, .int .i64 0, .int .i64 0]) (t := 36) ?hr ?_; (case hd => rfl); (case hg => rfl); (case hr => first | (go_simp; done) | (go_simp; rfl)); intro gb102 hg w45 hbox hb; have n0_ := Aside0.mk (below_step (by repeat (first | (with_reducible first | exact HB.out | apply below_alloc | apply pw_below_drewN | apply below_drew1) | exact HB.out)) hb); have n1_ := Aside0.mk (hbox); have n2_ := Aside0.mk ((by rw [hg]; exact (below_size (by repeat (first | (with_reducible first | exact HB.out | apply below_alloc | apply pw_below_drewN | apply below_drew1) | exact HB.out))) : w.heap.size ≤ gb102)); have n3_ := Aside0.mk ((by rw [hg]; exact (below_size (by repeat (first | (with_reducible first | exact HB.out | apply below_alloc | apply pw_below_drewN | apply below_drew1) | exact HB.out))) : w.heap.size ≤ gb102)); clear HB; have HB := n0_; have BK102 := n1_; have GW102 := n2_; have GE102 := n3_; clear n0_ n1_ n2_ n3_; clear hb hbox hg; have hcz46_0 : w45.cell? ⟨gb102, 0, none⟩ = some (.int .i64 0) := (blk_cell BK102.out 0).trans rfl; have hcz46_1 : w45.cell? ⟨gb102, 1, none⟩ = some (.int .i64 0) := (blk_cell BK102.out 1).trans rfl; have hcz46_2 : w45.cell? ⟨gb102, 2, none⟩ = some (.int .i64 0) := (blk_cell BK102.out 2).trans rfl; have hcz46_3 : w45.cell? ⟨gb102, 3, none⟩ = some (.int .i64 0) := (blk_cell BK102.out 3).trans rfl; have hcz46_4 : w45.cell? ⟨gb102, 4, none⟩ = some (.int .i64 0) := (blk_cell BK102.out 4).trans rfl; have hfz46_0 := blk_frozen BK102.out 0; have hfz46_1 := blk_frozen BK102.out 1; have hfz46_2 := blk_frozen BK102.out 2; have hfz46_3 := blk_frozen BK102.out 3; have hfz46_4 := blk_frozen BK102.out 4) | ((with_reducible refine gate_dst (N := 24) rfl ?_); (try (refine gate_guard (by rfl) ?_; dsimp only)); refine Kd.R_lit (Kd.int .i64) _ 2 ?hg (N := 24) ?hd (xs := ([(rd_T36 l0 x9_1).f3] : List Int)) (inner := [.int .i64 ((rd_T36 l0 x9_1).f3)]) (ok := fun _ => True) (okp := fun _ => True) ?hr ?hp (fun _ hk => hk) trivial (Below.refl _ _) (Nat.le_refl _) (by simp) ?_; (case hd => rfl); (case hg => rfl); (case hr => first | (go_simp; done) | (go_simp; rfl)); (case hp => exact (Reps.one (show Kd.M (Kd.int .i64) _ _ _ ((rd_T36 l0 x9_1).f3) [.int .i64 ((rd_T36 l0 x9_1).f3)] from rfl) (Reps.none _ _))); intro v104 w47 ho48 hb hg_ hnew_; clear hg_ hnew_; (first | rw [← Ny103.out] at ho48 | (simp only [Int.reduceToNat] at ho48; rw [← Ny103.out] at ho48)); have n0_ := Aside0.mk (Kd.R_lower ho48 (below_size (by repeat (first | (with_reducible first | exact HB.out | apply below_alloc | apply pw_below_drewN | apply below_drew1 | refine below_set ?_ GE102.out) | exact HB.out)))); have n1_ := Aside0.mk (blk_below (g := gb102) (o := .cells #[.int .i64 ((rd_T36 l0 x9_1).f0), .int .i64 ((rd_T36 l0 x9_1).f1), .int .i64 ((rd_T36 l0 x9_1).f2), .int .i64 ((rd_T36 l0 x9_1).f3), .int .i64 ((rd_T36 l0 x9_1).f4)] 36 (0, 0)) (by (with_reducible repeat (first | refine blk_drewN ?_ _ | refine blk_drew ?_ | refine blk_alloc ?_ _)); refine blk_put (cs := #[.int .i64 ((rd_T36 l0 x9_1).f0), .int .i64 ((rd_T36 l0 x9_1).f1), .int .i64 ((rd_T36 l0 x9_1).f2), .int .i64 ((rd_T36 l0 x9_1).f3), .int .i64 0]) ?_ 4 _ rfl; (with_reducible repeat (first | refine blk_drewN ?_ _ | refine blk_drew ?_ | refine blk_alloc ?_ _)); refine blk_put (cs := #[.int .i64 ((rd_T36 l0 x9_1).f0), .int .i64 ((rd_T36 l0 x9_1).f1), .int .i64 ((rd_T36 l0 x9_1).f2), .int .i64 0, .int .i64 0]) ?_ 3 _ rfl; (with_reducible repeat (first | refine blk_drewN ?_ _ | refine blk_drew ?_ | refine blk_alloc ?_ _)); refine blk_put (cs := #[.int .i64 ((rd_T36 l0 x9_1).f0), .int .i64 ((rd_T36 l0 x9_1).f1), .int .i64 0, .int .i64 0, .int .i64 0]) ?_ 2 _ rfl; (with_reducible repeat (first | refine blk_drewN ?_ _ | refine blk_drew ?_ | refine blk_alloc ?_ _)); refine blk_put (cs := #[.int .i64 ((rd_T36 l0 x9_1).f0), .int .i64 0, .int .i64 0, .int .i64 0, .int .i64 0]) ?_ 1 _ rfl; (with_reducible repeat (first | refine blk_drewN ?_ _ | refine blk_drew ?_ | refine blk_alloc ?_ _)); refine blk_put (cs := #[.int .i64 0, .int .i64 0, .int .i64 0, .int .i64 0, .int .i64 0]) ?_ 0 _ rfl; (with_reducible repeat (first | refine blk_drewN ?_ _ | refine blk_drew ?_ | refine blk_alloc ?_ _)); exact BK102.out) hb); have n2_ := Aside0.mk (below_step (by repeat (first | (with_reducible first | exact HB.out | apply below_alloc | apply pw_below_drewN | apply below_drew1 | refine below_set ?_ GE102.out) | exact HB.out)) hb); clear BK102; clear HB; have HO105 := n0_; have BK102 := n1_; have HB := n2_; clear n0_ n1_ n2_; clear hb ho48; obtain ⟨Ao49, co49, eo49⟩ := Kd.R_slice HO105.out; subst eo49) | (go_at_call 26; (with_reducible refine (atom_areSizes.calls k1 _ _ y103 true _ ?side1 ?side2 A7.out).mono ?_); (case side1 => repeat (first | exact (Kd.R_reads' HO105.out).2.2 | (with_reducible refine Kd.C_alloc ?_ _) | (with_reducible refine Kd.C_drewN ?_ _) | (with_reducible refine Kd.C_drew ?_))); (case side2 => exact (Kd.R_reads' HO105.out).2.1); rintro e w' ⟨rfl, ⟨nd, rfl⟩⟩; have hcz50_0 : w47.cell? ⟨gb102, 0, none⟩ = some (.int .i64 ((rd_T36 l0 x9_1).f0)) := (blk_cell BK102.out 0).trans rfl; have hcz50_1 : w47.cell? ⟨gb102, 1, none⟩ = some (.int .i64 ((rd_T36 l0 x9_1).f1)) := (blk_cell BK102.out 1).trans rfl; have hcz50_2 : w47.cell? ⟨gb102, 2, none⟩ = some (.int .i64 ((rd_T36 l0 x9_1).f2)) := (blk_cell BK102.out 2).trans rfl; have hcz50_3 : w47.cell? ⟨gb102, 3, none⟩ = some (.int .i64 ((rd_T36 l0 x9_1).f3)) := (blk_cell BK102.out 3).trans rfl; have hcz50_4 : w47.cell? ⟨gb102, 4, none⟩ = some (.int .i64 ((rd_T36 l0 x9_1).f4)) := (blk_cell BK102.out 4).trans rfl; have hfz50_0 := blk_frozen BK102.out 0; have hfz50_1 := blk_frozen BK102.out 1; have hfz50_2 := blk_frozen BK102.out 2; have hfz50_3 := blk_frozen BK102.out 3; have hfz50_4 := blk_frozen BK102.out 4))
                      go_ret
                      exact ⟨by first | rfl | (simp [errW_none, errW_some] <;> rfl) | (simp [*, errW_none, errW_some] <;> rfl), by repeat (first | (with_reducible first | exact HB.out | apply below_alloc | apply pw_below_drewN | apply below_drew1 | refine below_set ?_ GE102.out) | exact HB.out)⟩
                    · replace c44 := Bool.eq_false_iff.mpr c44
                      subst c44
                      have H1 : (some false) = some r := by rw [if_neg (show ¬ (false = true) by decide)] at H; exact H
                      clear H
                      have H := H1
                      clear H1
                      obtain rfl := Option.some.inj H
                      have p101 : 0 ≤ (x9_1 : Int) := of_decide_eq_true (by first | (with_reducible assumption) | assumption)
                      have q101 : x9_1 < (l0.length : Int) := of_decide_eq_true (by first | (with_reducible assumption) | assumption)
                      obtain ⟨ad101, e101, hx101_0, hx101_1, hx101_2, hx101_3, hx101_4⟩ := at_T36 HR0.out x9_1 p101 q101
                      cases e101
                      replace hx101_0 := (HB.out.cell (World.block_lt_of_cell? w _ hx101_0)).trans hx101_0
                      replace hx101_1 := (HB.out.cell (World.block_lt_of_cell? w _ hx101_1)).trans hx101_1
                      replace hx101_2 := (HB.out.cell (World.block_lt_of_cell? w _ hx101_2)).trans hx101_2
                      replace hx101_3 := (HB.out.cell (World.block_lt_of_cell? w _ hx101_3)).trans hx101_3
                      replace hx101_4 := (HB.out.cell (World.block_lt_of_cell? w _ hx101_4)).trans hx101_4
                      replace p101 := eq_true p101
                      replace q101 := eq_true q101
                      go_wp2_with (first | ((with_reducible refine gate_dst (N := 4) rfl ?_); (try (refine gate_guard (by rfl) ?_; dsimp only)); refine box_event ?hg (N := 4) ?hd (cs := #[.int .i64 0, .int .i64 0, .int .i64 0, .int .i64 0, .int .i64 0]) (t := 36) ?hr ?_; (case hd => rfl); (case hg => rfl); (case hr => first | (go_simp; done) | (go_simp; rfl)); intro gb102 hg w51 hbox hb; have n0_ := Aside0.mk (below_step (by repeat (first | (with_reducible first | exact HB.out | apply below_alloc | apply pw_below_drewN | apply below_drew1) | exact HB.out)) hb); have n1_ := Aside0.mk (hbox); have n2_ := Aside0.mk ((by rw [hg]; exact (below_size (by repeat (first | (with_reducible first | exact HB.out | apply below_alloc | apply pw_below_drewN | apply below_drew1) | exact HB.out))) : w.heap.size ≤ gb102)); have n3_ := Aside0.mk ((by rw [hg]; exact (below_size (by repeat (first | (with_reducible first | exact HB.out | apply below_alloc | apply pw_below_drewN | apply below_drew1) | exact HB.out))) : w.heap.size ≤ gb102)); clear HB; have HB := n0_; have BK102 := n1_; have GW102 := n2_; have GE102 := n3_; clear n0_ n1_ n2_ n3_; clear hb hbox hg; have hcz52_0 : w51.cell? ⟨gb102, 0, none⟩ = some (.int .i64 0) := (blk_cell BK102.out 0).trans rfl; have hcz52_1 : w51.cell? ⟨gb102, 1, none⟩ = some (.int .i64 0) := (blk_cell BK102.out 1).trans rfl; have hcz52_2 : w51.cell? ⟨gb102, 2, none⟩ = some (.int .i64 0) := (blk_cell BK102.out 2).trans rfl; have hcz52_3 : w51.cell? ⟨gb102, 3, none⟩ = some (.int .i64 0) := (blk_cell BK102.out 3).trans rfl; have hcz52_4 : w51.cell? ⟨gb102, 4, none⟩ = some (.int .i64 0) := (blk_cell BK102.out 4).trans rfl; have hfz52_0 := blk_frozen BK102.out 0; have hfz52_1 := blk_frozen BK102.out 1; have hfz52_2 := blk_frozen BK102.out 2; have hfz52_3 := blk_frozen BK102.out 3; have hfz52_4 := blk_frozen BK102.out 4) | ((with_reducible refine gate_dst (N := 24) rfl ?_); (try (refine gate_guard (by rfl) ?_; dsimp only)); refine Kd.R_lit (Kd.int .i64) _ 2 ?hg (N := 24) ?hd (xs := ([(rd_T36 l0 x9_1).f3] : List Int)) (inner := [.int .i64 ((rd_T36 l0 x9_1).f3)]) (ok := fun _ => True) (okp := fun _ => True) ?hr ?hp (fun _ hk => hk) trivial (Below.refl _ _) (Nat.le_refl _) (by simp) ?_; (case hd => rfl); (case hg => rfl); (case hr => first | (go_simp; done) | (go_simp; rfl)); (case hp => exact (Reps.one (show Kd.M (Kd.int .i64) _ _ _ ((rd_T36 l0 x9_1).f3) [.int .i64 ((rd_T36 l0 x9_1).f3)] from rfl) (Reps.none _ _))); intro v104 w53 ho54 hb hg_ hnew_; clear hg_ hnew_; (first | rw [← Ny103.out] at ho54 | (simp only [Int.reduceToNat] at ho54; rw [← Ny103.out] at ho54)); have n0_ := Aside0.mk (Kd.R_lower ho54 (below_size (by repeat (first | (with_reducible first | exact HB.out | apply below_alloc | apply pw_below_drewN | apply below_drew1 | refine below_set ?_ GE102.out) | exact HB.out)))); have n1_ := Aside0.mk (blk_below (g := gb102) (o := .cells #[.int .i64 ((rd_T36 l0 x9_1).f0), .int .i64 ((rd_T36 l0 x9_1).f1), .int .i64 ((rd_T36 l0 x9_1).f2), .int .i64 ((rd_T36 l0 x9_1).f3), .int .i64 ((rd_T36 l0 x9_1).f4)] 36 (0, 0)) (by (with_reducible repeat (first | refine blk_drewN ?_ _ | refine blk_drew ?_ | refine blk_alloc ?_ _)); refine blk_put (cs := #[.int .i64 ((rd_T36 l0 x9_1).f0), .int .i64 ((rd_T36 l0 x9_1).f1), .int .i64 ((rd_T36 l0 x9_1).f2), .int .i64 ((rd_T36 l0 x9_1).f3), .int .i64 0]) ?_ 4 _ rfl; (with_reducible repeat (first | refine blk_drewN ?_ _ | refine blk_drew ?_ | refine blk_alloc ?_ _)); refine blk_put (cs := #[.int .i64 ((rd_T36 l0 x9_1).f0), .int .i64 ((rd_T36 l0 x9_1).f1), .int .i64 ((rd_T36 l0 x9_1).f2), .int .i64 0, .int .i64 0]) ?_ 3 _ rfl; (with_reducible repeat (first | refine blk_drewN ?_ _ | refine blk_drew ?_ | refine blk_alloc ?_ _)); refine blk_put (cs := #[.int .i64 ((rd_T36 l0 x9_1).f0), .int .i64 ((rd_T36 l0 x9_1).f1), .int .i64 0, .int .i64 0, .int .i64 0]) ?_ 2 _ rfl; (with_reducible repeat (first | refine blk_drewN ?_ _ | refine blk_drew ?_ | refine blk_alloc ?_ _)); refine blk_put (cs := #[.int .i64 ((rd_T36 l0 x9_1).f0), .int .i64 0, .int .i64 0, .int .i64 0, .int .i64 0]) ?_ 1 _ rfl; (with_reducible repeat (first | refine blk_drewN ?_ _ | refine blk_drew ?_ | refine blk_alloc ?_ _)); refine blk_put (cs := #[.int .i64 0, .int .i64 0, .int .i64 0, .int .i64 0, .int .i64 0]) ?_ 0 _ rfl; (with_reducible repeat (first | refine blk_drewN ?_ _ | refine blk_drew ?_ | refine blk_alloc ?_ _)); exact BK102.out) hb); have n2_ := Aside0.mk (below_step (by repeat (first | (with_reducible first | exact HB.out | apply below_alloc | apply pw_below_drewN | apply below_drew1 | refine below_set ?_ GE102.out) | exact HB.out)) hb); clear BK102; clear HB; have HO105 := n0_; have BK102 := n1_; have HB := n2_; clear n0_ n1_ n2_; clear hb ho54; obtain ⟨Ao55, co55, eo55⟩ := Kd.R_slice HO105.out; subst eo55) | (go_at_call 26; (with_reducible refine (atom_areSizes.calls k1 _ _ y103 false _ ?side1 ?side2 A7.out).mono ?_); (case side1 => repeat (first | exact (Kd.R_reads' HO105.out).2.2 | (with_reducible refine Kd.C_alloc ?_ _) | (with_reducible refine Kd.C_drewN ?_ _) | (with_reducible refine Kd.C_drew ?_))); (case side2 => exact (Kd.R_reads' HO105.out).2.1); rintro e w' ⟨rfl, ⟨nd, rfl⟩⟩; have hcz56_0 : w53.cell? ⟨gb102, 0, none⟩ = some (.int .i64 ((rd_T36 l0 x9_1).f0)) := (blk_cell BK102.out 0).trans rfl; have hcz56_1 : w53.cell? ⟨gb102, 1, none⟩ = some (.int .i64 ((rd_T36 l0 x9_1).f1)) := (blk_cell BK102.out 1).trans rfl; have hcz56_2 : w53.cell? ⟨gb102, 2, none⟩ = some (.int .i64 ((rd_T36 l0 x9_1).f2)) := (blk_cell BK102.out 2).trans rfl; have hcz56_3 : w53.cell? ⟨gb102, 3, none⟩ = some (.int .i64 ((rd_T36 l0 x9_1).f3)) := (blk_cell BK102.out 3).trans rfl; have hcz56_4 : w53.cell? ⟨gb102, 4, none⟩ = some (.int .i64 ((rd_T36 l0 x9_1).f4)) := (blk_cell BK102.out 4).trans rfl; have hfz56_0 := blk_frozen BK102.out 0; have hfz56_1 := blk_frozen BK102.out 1; have hfz56_2 := blk_frozen BK102.out 2; have hfz56_3 := blk_frozen BK102.out 3; have hfz56_4 := blk_frozen BK102.out 4))
                      go_ret
                      exact ⟨by first | rfl | (simp [errW_none, errW_some] <;> rfl) | (simp [*, errW_none, errW_some] <;> rfl), by repeat (first | (with_reducible first | exact HB.out | apply below_alloc | apply pw_below_drewN | apply below_drew1 | refine below_set ?_ GE102.out) | exact HB.out)⟩
                · rw [if_neg c8] at H
                  have c8b0 : decide (0 ≤ ((rd_T36 l0 x9_1).f0)) = false := decide_eq_false c8
                  clear c8
                  by_cases c57 : t106 = true
                  · subst c57
                    have H1 : (some false) = some r := by rw [if_pos rfl] at H; exact H
                    clear H
                    have H := H1
                    clear H1
                    obtain rfl := Option.some.inj H
                    have p101 : 0 ≤ (x9_1 : Int) := of_decide_eq_true (by first | (with_reducible assumption) | assumption)
                    have q101 : x9_1 < (l0.length : Int) := of_decide_eq_true (by first | (with_reducible assumption) | assumption)
                    obtain ⟨ad101, e101, hx101_0, hx101_1, hx101_2, hx101_3, hx101_4⟩ := at_T36 HR0.out x9_1 p101 q101
                    cases e101
                    replace hx101_0 := (HB.out.cell (World.block_lt_of_cell? w _ hx101_0)).trans hx101_0
                    replace hx101_1 := (HB.out.cell (World.block_lt_of_cell? w _ hx101_1)).trans hx101_1
                    replace hx101_2 := (HB.out.cell (World.block_lt_of_cell? w _ hx101_2)).trans hx101_2
                    replace hx101_3 := (HB.out.cell (World.block_lt_of_cell? w _ hx101_3)).trans hx101_3
                    replace hx101_4 := (HB.out.cell (World.block_lt_of_cell? w _ hx101_4)).trans hx101_4
                    replace p101 := eq_true p101
                    replace q101 := eq_true q101
                    go_wp2_with (first | ((with_reducible refine gate_dst (N := 4) rfl ?_); (try (refine gate_guard (by rfl) ?_; dsimp only)); refine box_event ?hg (N := 4) ?hd (cs := #[.int .i64 0, .int .i64 0, .int .i64 0, .int .i64 0, .int .i64 0]) (t := 36) ?hr ?_; (case hd => rfl); (case hg => rfl); (case hr => first | (go_simp; done) | (go_simp; rfl)); intro gb102 hg w58 hbox hb; have n0_ := Aside0.mk (below_step (by repeat (first | (with_reducible first | exact HB.out | apply below_alloc | apply pw_below_drewN | apply below_drew1) | exact HB.out)) hb); have n1_ := Aside0.mk (hbox); have n2_ := Aside0.mk ((by rw [hg]; exact (below_size (by repeat (first | (with_reducible first | exact HB.out | apply below_alloc | apply pw_below_drewN | apply below_drew1) | exact HB.out))) : w.heap.size ≤ gb102)); have n3_ := Aside0.mk ((by rw [hg]; exact (below_size (by repeat (first | (with_reducible first | exact HB.out | apply below_alloc | apply pw_below_drewN | apply below_drew1) | exact HB.out))) : w.heap.size ≤ gb102)); clear HB; have HB := n0_; have BK102 := n1_; have GW102 := n2_; have GE102 := n3_; clear n0_ n1_ n2_ n3_; clear hb hbox hg; have hcz59_0 : w58.cell? ⟨gb102, 0, none⟩ = some (.int .i64 0) := (blk_cell BK102.out 0).trans rfl; have hcz59_1 : w58.cell? ⟨gb102, 1, none⟩ = some (.int .i64 0) := (blk_cell BK102.out 1).trans rfl; have hcz59_2 : w58.cell? ⟨gb102, 2, none⟩ = some (.int .i64 0) := (blk_cell BK102.out 2).trans rfl; have hcz59_3 : w58.cell? ⟨gb102, 3, none⟩ = some (.int .i64 0) := (blk_cell BK102.out 3).trans rfl; have hcz59_4 : w58.cell? ⟨gb102, 4, none⟩ = some (.int .i64 0) := (blk_cell BK102.out 4).trans rfl; have hfz59_0 := blk_frozen BK102.out 0; have hfz59_1 := blk_frozen BK102.out 1; have hfz59_2 := blk_frozen BK102.out 2; have hfz59_3 := blk_frozen BK102.out 3; have hfz59_4 := blk_frozen BK102.out 4) | ((with_reducible refine gate_dst (N := 24) rfl ?_); (try (refine gate_guard (by rfl) ?_; dsimp only)); refine Kd.R_lit (Kd.int .i64) _ 2 ?hg (N := 24) ?hd (xs := ([(rd_T36 l0 x9_1).f3] : List Int)) (inner := [.int .i64 ((rd_T36 l0 x9_1).f3)]) (ok := fun _ => True) (okp := fun _ => True) ?hr ?hp (fun _ hk => hk) trivial (Below.refl _ _) (Nat.le_refl _) (by simp) ?_; (case hd => rfl); (case hg => rfl); (case hr => first | (go_simp; done) | (go_simp; rfl)); (case hp => exact (Reps.one (show Kd.M (Kd.int .i64) _ _ _ ((rd_T36 l0 x9_1).f3) [.int .i64 ((rd_T36 l0 x9_1).f3)] from rfl) (Reps.none _ _))); intro v104 w60 ho61 hb hg_ hnew_; clear hg_ hnew_; (first | rw [← Ny103.out] at ho61 | (simp only [Int.reduceToNat] at ho61; rw [← Ny103.out] at ho61)); have n0_ := Aside0.mk (Kd.R_lower ho61 (below_size (by repeat (first | (with_reducible first | exact HB.out | apply below_alloc | apply pw_below_drewN | apply below_drew1 | refine below_set ?_ GE102.out) | exact HB.out)))); have n1_ := Aside0.mk (blk_below (g := gb102) (o := .cells #[.int .i64 ((rd_T36 l0 x9_1).f0), .int .i64 ((rd_T36 l0 x9_1).f1), .int .i64 ((rd_T36 l0 x9_1).f2), .int .i64 ((rd_T36 l0 x9_1).f3), .int .i64 ((rd_T36 l0 x9_1).f4)] 36 (0, 0)) (by (with_reducible repeat (first | refine blk_drewN ?_ _ | refine blk_drew ?_ | refine blk_alloc ?_ _)); refine blk_put (cs := #[.int .i64 ((rd_T36 l0 x9_1).f0), .int .i64 ((rd_T36 l0 x9_1).f1), .int .i64 ((rd_T36 l0 x9_1).f2), .int .i64 ((rd_T36 l0 x9_1).f3), .int .i64 0]) ?_ 4 _ rfl; (with_reducible repeat (first | refine blk_drewN ?_ _ | refine blk_drew ?_ | refine blk_alloc ?_ _)); refine blk_put (cs := #[.int .i64 ((rd_T36 l0 x9_1).f0), .int .i64 ((rd_T36 l0 x9_1).f1), .int .i64 ((rd_T36 l0 x9_1).f2), .int .i64 0, .int .i64 0]) ?_ 3 _ rfl; (with_reducible repeat (first | refine blk_drewN ?_ _ | refine blk_drew ?_ | refine blk_alloc ?_ _)); refine blk_put (cs := #[.int .i64 ((rd_T36 l0 x9_1).f0), .int .i64 ((rd_T36 l0 x9_1).f1), .int .i64 0, .int .i64 0, .int .i64 0]) ?_ 2 _ rfl; (with_reducible repeat (first | refine blk_drewN ?_ _ | refine blk_drew ?_ | refine blk_alloc ?_ _)); refine blk_put (cs := #[.int .i64 ((rd_T36 l0 x9_1).f0), .int .i64 0, .int .i64 0, .int .i64 0, .int .i64 0]) ?_ 1 _ rfl; (with_reducible repeat (first | refine blk_drewN ?_ _ | refine blk_drew ?_ | refine blk_alloc ?_ _)); refine blk_put (cs := #[.int .i64 0, .int .i64 0, .int .i64 0, .int .i64 0, .int .i64 0]) ?_ 0 _ rfl; (with_reducible repeat (first | refine blk_drewN ?_ _ | refine blk_drew ?_ | refine blk_alloc ?_ _)); exact BK102.out) hb); have n2_ := Aside0.mk (below_step (by repeat (first | (with_reducible first | exact HB.out | apply below_alloc | apply pw_below_drewN | apply below_drew1 | refine below_set ?_ GE102.out) | exact HB.out)) hb); clear BK102; clear HB; have HO105 := n0_; have BK102 := n1_; have HB := n2_; clear n0_ n1_ n2_; clear hb ho61; obtain ⟨Ao62, co62, eo62⟩ := Kd.R_slice HO105.out; subst eo62) | (go_at_call 26; (with_reducible refine (atom_areSizes.calls k1 _ _ y103 true _ ?side1 ?side2 A7.out).mono ?_); (case side1 => repeat (first | exact (Kd.R_reads' HO105.out).2.2 | (with_reducible refine Kd.C_alloc ?_ _) | (with_reducible refine Kd.C_drewN ?_ _) | (with_reducible refine Kd.C_drew ?_))); (case side2 => exact (Kd.R_reads' HO105.out).2.1); rintro e w' ⟨rfl, ⟨nd, rfl⟩⟩; have hcz63_0 : w60.cell? ⟨gb102, 0, none⟩ = some (.int .i64 ((rd_T36 l0 x9_1).f0)) := (blk_cell BK102.out 0).trans rfl; have hcz63_1 : w60.cell? ⟨gb102, 1, none⟩ = some (.int .i64 ((rd_T36 l0 x9_1).f1)) := (blk_cell BK102.out 1).trans rfl; have hcz63_2 : w60.cell? ⟨gb102, 2, none⟩ = some (.int .i64 ((rd_T36 l0 x9_1).f2)) := (blk_cell BK102.out 2).trans rfl; have hcz63_3 : w60.cell? ⟨gb102, 3, none⟩ = some (.int .i64 ((rd_T36 l0 x9_1).f3)) := (blk_cell BK102.out 3).trans rfl; have hcz63_4 : w60.cell? ⟨gb102, 4, none⟩ = some (.int .i64 ((rd_T36 l0 x9_1).f4)) := (blk_cell BK102.out 4).trans rfl; have hfz63_0 := blk_frozen BK102.out 0; have hfz63_1 := blk_frozen BK102.out 1; have hfz63_2 := blk_frozen BK102.out 2; have hfz63_3 := blk_frozen BK102.out 3; have hfz63_4 := blk_frozen BK102.out 4))
                    go_ret
                    exact ⟨by first | rfl | (simp [errW_none, errW_some] <;> rfl) | (simp [*, errW_none, errW_some] <;> rfl), by repeat (first | (with_reducible first | exact HB.out | apply below_alloc | apply pw_below_drewN | apply below_drew1 | refine below_set ?_ GE102.out) | exact HB.out)⟩
                  · replace c57 := Bool.eq_false_iff.mpr c57
                    subst c57
                    have H1 : (some false) = some r := by rw [if_neg (show ¬ (false = true) by decide)] at H; exact H
                    clear H
                    have H := H1
                    clear H1
                    obtain rfl := Option.some.inj H
                    have p101 : 0 ≤ (x9_1 : Int) := of_decide_eq_true (by first | (with_reducible assumption) | assumption)
                    have q101 : x9_1 < (l0.length : Int) := of_decide_eq_true (by first | (with_reducible assumption) | assumption)
                    obtain ⟨ad101, e101, hx101_0, hx101_1, hx101_2, hx101_3, hx101_4⟩ := at_T36 HR0.out x9_1 p101 q101
                    cases e101
                    replace hx101_0 := (HB.out.cell (World.block_lt_of_cell? w _ hx101_0)).trans hx101_0
                    replace hx101_1 := (HB.out.cell (World.block_lt_of_cell? w _ hx101_1)).trans hx101_1
                    replace hx101_2 := (HB.out.cell (World.block_lt_of_cell? w _ hx101_2)).trans hx101_2
                    replace hx101_3 := (HB.out.cell (World.block_lt_of_cell? w _ hx101_3)).trans hx101_3
                    replace hx101_4 := (HB.out.cell (World.block_lt_of_cell? w _ hx101_4)).trans hx101_4
                    replace p101 := eq_true p101
                    replace q101 := eq_true q101
                    go_wp2_with (first | ((with_reducible refine gate_dst (N := 4) rfl ?_); (try (refine gate_guard (by rfl) ?_; dsimp only)); refine box_event ?hg (N := 4) ?hd (cs := #[.int .i64 0, .int .i64 0, .int .i64 0, .int .i64 0, .int .i64 0]) (t := 36) ?hr ?_; (case hd => rfl); (case hg => rfl); (case hr => first | (go_simp; done) | (go_simp; rfl)); intro gb102 hg w64 hbox hb; have n0_ := Aside0.mk (below_step (by repeat (first | (with_reducible first | exact HB.out | apply below_alloc | apply pw_below_drewN | apply below_drew1) | exact HB.out)) hb); have n1_ := Aside0.mk (hbox); have n2_ := Aside0.mk ((by rw [hg]; exact (below_size (by repeat (first | (with_reducible first | exact HB.out | apply below_alloc | apply pw_below_drewN | apply below_drew1) | exact HB.out))) : w.heap.size ≤ gb102)); have n3_ := Aside0.mk ((by rw [hg]; exact (below_size (by repeat (first | (with_reducible first | exact HB.out | apply below_alloc | apply pw_below_drewN | apply below_drew1) | exact HB.out))) : w.heap.size ≤ gb102)); clear HB; have HB := n0_; have BK102 := n1_; have GW102 := n2_; have GE102 := n3_; clear n0_ n1_ n2_ n3_; clear hb hbox hg; have hcz65_0 : w64.cell? ⟨gb102, 0, none⟩ = some (.int .i64 0) := (blk_cell BK102.out 0).trans rfl; have hcz65_1 : w64.cell? ⟨gb102, 1, none⟩ = some (.int .i64 0) := (blk_cell BK102.out 1).trans rfl; have hcz65_2 : w64.cell? ⟨gb102, 2, none⟩ = some (.int .i64 0) := (blk_cell BK102.out 2).trans rfl; have hcz65_3 : w64.cell? ⟨gb102, 3, none⟩ = some (.int .i64 0) := (blk_cell BK102.out 3).trans rfl; have hcz65_4 : w64.cell? ⟨gb102, 4, none⟩ = some (.int .i64 0) := (blk_cell BK102.out 4).trans rfl; have hfz65_0 := blk_frozen BK102.out 0; have hfz65_1 := blk_frozen BK102.out 1; have hfz65_2 := blk_frozen BK102.out 2; have hfz65_3 := blk_frozen BK102.out 3; have hfz65_4 := blk_frozen BK102.out 4) | ((with_reducible refine gate_dst (N := 24) rfl ?_); (try (refine gate_guard (by rfl) ?_; dsimp only)); refine Kd.R_lit (Kd.int .i64) _ 2 ?hg (N := 24) ?hd (xs := ([(rd_T36 l0 x9_1).f3] : List Int)) (inner := [.int .i64 ((rd_T36 l0 x9_1).f3)]) (ok := fun _ => True) (okp := fun _ => True) ?hr ?hp (fun _ hk => hk) trivial (Below.refl _ _) (Nat.le_refl _) (by simp) ?_; (case hd => rfl); (case hg => rfl); (case hr => first | (go_simp; done) | (go_simp; rfl)); (case hp => exact (Reps.one (show Kd.M (Kd.int .i64) _ _ _ ((rd_T36 l0 x9_1).f3) [.int .i64 ((rd_T36 l0 x9_1).f3)] from rfl) (Reps.none _ _))); intro v104 w66 ho67 hb hg_ hnew_; clear hg_ hnew_; (first | rw [← Ny103.out] at ho67 | (simp only [Int.reduceToNat] at ho67; rw [← Ny103.out] at ho67)); have n0_ := Aside0.mk (Kd.R_lower ho67 (below_size (by repeat (first | (with_reducible first | exact HB.out | apply below_alloc | apply pw_below_drewN | apply below_drew1 | refine below_set ?_ GE102.out) | exact HB.out)))); have n1_ := Aside0.mk (blk_below (g := gb102) (o := .cells #[.int .i64 ((rd_T36 l0 x9_1).f0), .int .i64 ((rd_T36 l0 x9_1).f1), .int .i64 ((rd_T36 l0 x9_1).f2), .int .i64 ((rd_T36 l0 x9_1).f3), .int .i64 ((rd_T36 l0 x9_1).f4)] 36 (0, 0)) (by (with_reducible repeat (first | refine blk_drewN ?_ _ | refine blk_drew ?_ | refine blk_alloc ?_ _)); refine blk_put (cs := #[.int .i64 ((rd_T36 l0 x9_1).f0), .int .i64 ((rd_T36 l0 x9_1).f1), .int .i64 ((rd_T36 l0 x9_1).f2), .int .i64 ((rd_T36 l0 x9_1).f3), .int .i64 0]) ?_ 4 _ rfl; (with_reducible repeat (first | refine blk_drewN ?_ _ | refine blk_drew ?_ | refine blk_alloc ?_ _)); refine blk_put (cs := #[.int .i64 ((rd_T36 l0 x9_1).f0), .int .i64 ((rd_T36 l0 x9_1).f1), .int .i64 ((rd_T36 l0 x9_1).f2), .int .i64 0, .int .i64 0]) ?_ 3 _ rfl; (with_reducible repeat (first | refine blk_drewN ?_ _ | refine blk_drew ?_ | refine blk_alloc ?_ _)); refine blk_put (cs := #[.int .i64 ((rd_T36 l0 x9_1).f0), .int .i64 ((rd_T36 l0 x9_1).f1), .int .i64 0, .int .i64 0, .int .i64 0]) ?_ 2 _ rfl; (with_reducible repeat (first | refine blk_drewN ?_ _ | refine blk_drew ?_ | refine blk_alloc ?_ _)); refine blk_put (cs := #[.int .i64 ((rd_T36 l0 x9_1).f0), .int .i64 0, .int .i64 0, .int .i64 0, .int .i64 0]) ?_ 1 _ rfl; (with_reducible repeat (first | refine blk_drewN ?_ _ | refine blk_drew ?_ | refine blk_alloc ?_ _)); refine blk_put (cs := #[.int .i64 0, .int .i64 0, .int .i64 0, .int .i64 0, .int .i64 0]) ?_ 0 _ rfl; (with_reducible repeat (first | refine blk_drewN ?_ _ | refine blk_drew ?_ | refine blk_alloc ?_ _)); exact BK102.out) hb); have n2_ := Aside0.mk (below_step (by repeat (first | (with_reducible first | exact HB.out | apply below_alloc | apply pw_below_drewN | apply below_drew1 | refine below_set ?_ GE102.out) | exact HB.out)) hb); clear BK102; clear HB; have HO105 := n0_; have BK102 := n1_; have HB := n2_; clear n0_ n1_ n2_; clear hb ho67; obtain ⟨Ao68, co68, eo68⟩ := Kd.R_slice HO105.out; subst eo68) | (go_at_call 26; (with_reducible refine (atom_areSizes.calls k1 _ _ y103 false _ ?side1 ?side2 A7.out).mono ?_); (case side1 => repeat (first | exact (Kd.R_reads' HO105.out).2.2 | (with_reducible refine Kd.C_alloc ?_ _) | (with_reducible refine Kd.C_drewN ?_ _) | (with_reducible refine Kd.C_drew ?_))); (case side2 => exact (Kd.R_reads' HO105.out).2.1); rintro e w' ⟨rfl, ⟨nd, rfl⟩⟩; have hcz69_0 : w66.cell? ⟨gb102, 0, none⟩ = some (.int .i64 ((rd_T36 l0 x9_1).f0)) := (blk_cell BK102.out 0).trans rfl; have hcz69_1 : w66.cell? ⟨gb102, 1, none⟩ = some (.int .i64 ((rd_T36 l0 x9_1).f1)) := (blk_cell BK102.out 1).trans rfl; have hcz69_2 : w66.cell? ⟨gb102, 2, none⟩ = some (.int .i64 ((rd_T36 l0 x9_1).f2)) := (blk_cell BK102.out 2).trans rfl; have hcz69_3 : w66.cell? ⟨gb102, 3, none⟩ = some (.int .i64 ((rd_T36 l0 x9_1).f3)) := (blk_cell BK102.out 3).trans rfl; have hcz69_4 : w66.cell? ⟨gb102, 4, none⟩ = some (.int .i64 ((rd_T36 l0 x9_1).f4)) := (blk_cell BK102.out 4).trans rfl; have hfz69_0 := blk_frozen BK102.out 0; have hfz69_1 := blk_frozen BK102.out 1; have hfz69_2 := blk_frozen BK102.out 2; have hfz69_3 := blk_frozen BK102.out 3; have hfz69_4 := blk_frozen BK102.out 4))
                    go_ret
                    exact ⟨by first | rfl | (simp [errW_none, errW_some] <;> rfl) | (simp [*, errW_none, errW_some] <;> rfl), by repeat (first | (with_reducible first | exact HB.out | apply below_alloc | apply pw_below_drewN | apply below_drew1 | refine below_set ?_ GE102.out) | exact HB.out)⟩
              · rw [if_neg c6] at H
                have c6b0 : decide (((rd_T36 l0 x9_1).f2) ≤ 1073741824) = false := decide_eq_false c6
                clear c6
                by_cases c70 : ((rd_T36 l0 x9_1).f0) ≥ 0
                · rw [if_pos c70] at H
                  have c70b0 : decide (0 ≤ ((rd_T36 l0 x9_1).f0)) = true := decide_eq_true c70
                  clear c70
                  by_cases c71 : ((rd_T36 l0 x9_1).f0) < 200
                  · rw [if_pos c71] at H
                    have c71b0 : decide (((rd_T36 l0 x9_1).f0) < 200) = true := decide_eq_true c71
                    clear c71
                    obtain rfl := Option.some.inj H
                    have p101 : 0 ≤ (x9_1 : Int) := of_decide_eq_true (by first | (with_reducible assumption) | assumption)
                    have q101 : x9_1 < (l0.length : Int) := of_decide_eq_true (by first | (with_reducible assumption) | assumption)
                    obtain ⟨ad101, e101, hx101_0, hx101_1, hx101_2, hx101_3, hx101_4⟩ := at_T36 HR0.out x9_1 p101 q101
                    cases e101
                    replace hx101_0 := (HB.out.cell (World.block_lt_of_cell? w _ hx101_0)).trans hx101_0
                    replace hx101_1 := (HB.out.cell (World.block_lt_of_cell? w _ hx101_1)).trans hx101_1
                    replace hx101_2 := (HB.out.cell (World.block_lt_of_cell? w _ hx101_2)).trans hx101_2
                    replace hx101_3 := (HB.out.cell (World.block_lt_of_cell? w _ hx101_3)).trans hx101_3
                    replace hx101_4 := (HB.out.cell (World.block_lt_of_cell? w _ hx101_4)).trans hx101_4
                    replace p101 := eq_true p101
                    replace q101 := eq_true q101
                    go_wp2_with (first | ((with_reducible refine gate_dst (N := 4) rfl ?_); (try (refine gate_guard (by rfl) ?_; dsimp only)); refine box_event ?hg (N := 4) ?hd (cs := #[.int .i64 0, .int .i64 0, .int .i64 0, .int .i64 0, .int .i64 0]) (t := 36) ?hr ?_; (case hd => rfl); (case hg => rfl); (case hr => first | (go_simp; done) | (go_simp; rfl)); intro gb102 hg w72 hbox hb; have n0_ := Aside0.mk (below_step (by repeat (first | (with_reducible first | exact HB.out | apply below_alloc | apply pw_below_drewN | apply below_drew1) | exact HB.out)) hb); have n1_ := Aside0.mk (hbox); have n2_ := Aside0.mk ((by rw [hg]; exact (below_size (by repeat (first | (with_reducible first | exact HB.out | apply below_alloc | apply pw_below_drewN | apply below_drew1) | exact HB.out))) : w.heap.size ≤ gb102)); have n3_ := Aside0.mk ((by rw [hg]; exact (below_size (by repeat (first | (with_reducible first | exact HB.out | apply below_alloc | apply pw_below_drewN | apply below_drew1) | exact HB.out))) : w.heap.size ≤ gb102)); clear HB; have HB := n0_; have BK102 := n1_; have GW102 := n2_; have GE102 := n3_; clear n0_ n1_ n2_ n3_; clear hb hbox hg; have hcz73_0 : w72.cell? ⟨gb102, 0, none⟩ = some (.int .i64 0) := (blk_cell BK102.out 0).trans rfl; have hcz73_1 : w72.cell? ⟨gb102, 1, none⟩ = some (.int .i64 0) := (blk_cell BK102.out 1).trans rfl; have hcz73_2 : w72.cell? ⟨gb102, 2, none⟩ = some (.int .i64 0) := (blk_cell BK102.out 2).trans rfl; have hcz73_3 : w72.cell? ⟨gb102, 3, none⟩ = some (.int .i64 0) := (blk_cell BK102.out 3).trans rfl; have hcz73_4 : w72.cell? ⟨gb102, 4, none⟩ = some (.int .i64 0) := (blk_cell BK102.out 4).trans rfl; have hfz73_0 := blk_frozen BK102.out 0; have hfz73_1 := blk_frozen BK102.out 1; have hfz73_2 := blk_frozen BK102.out 2; have hfz73_3 := blk_frozen BK102.out 3; have hfz73_4 := blk_frozen BK102.out 4))
                    go_ret
                    exact ⟨by first | rfl | (simp [errW_none, errW_some] <;> rfl) | (simp [*, errW_none, errW_some] <;> rfl), by repeat (first | (with_reducible first | exact HB.out | apply below_alloc | apply pw_below_drewN | apply below_drew1 | refine below_set ?_ GE102.out) | exact HB.out)⟩
                  · rw [if_neg c71] at H
                    have c71b0 : decide (((rd_T36 l0 x9_1).f0) < 200) = false := decide_eq_false c71
                    clear c71
                    obtain rfl := Option.some.inj H
                    have p101 : 0 ≤ (x9_1 : Int) := of_decide_eq_true (by first | (with_reducible assumption) | assumption)
                    have q101 : x9_1 < (l0.length : Int) := of_decide_eq_true (by first | (with_reducible assumption) | assumption)
                    obtain ⟨ad101, e101, hx101_0, hx101_1, hx101_2, hx101_3, hx101_4⟩ := at_T36 HR0.out x9_1 p101 q101
                    cases e101
                    replace hx101_0 := (HB.out.cell (World.block_lt_of_cell? w _ hx101_0)).trans hx101_0
                    replace hx101_1 := (HB.out.cell (World.block_lt_of_cell? w _ hx101_1)).trans hx101_1
                    replace hx101_2 := (HB.out.cell (World.block_lt_of_cell? w _ hx101_2)).trans hx101_2
                    replace hx101_3 := (HB.out.cell (World.block_lt_of_cell? w _ hx101_3)).trans hx101_3
                    replace hx101_4 := (HB.out.cell (World.block_lt_of_cell? w _ hx101_4)).trans hx101_4
                    replace p101 := eq_true p101
                    replace q101 := eq_true q101
                    go_wp2_with (first | ((with_reducible refine gate_dst (N := 4) rfl ?_); (try (refine gate_guard (by rfl) ?_; dsimp only)); refine box_event ?hg (N := 4) ?hd (cs := #[.int .i64 0, .int .i64 0, .int .i64 0, .int .i64 0, .int .i64 0]) (t := 36) ?hr ?_; (case hd => rfl); (case hg => rfl); (case hr => first | (go_simp; done) | (go_simp; rfl)); intro gb102 hg w74 hbox hb; have n0_ := Aside0.mk (below_step (by repeat (first | (with_reducible first | exact HB.out | apply below_alloc | apply pw_below_drewN | apply below_drew1) | exact HB.out)) hb); have n1_ := Aside0.mk (hbox); have n2_ := Aside0.mk ((by rw [hg]; exact (below_size (by repeat (first | (with_reducible first | exact HB.out | apply below_alloc | apply pw_below_drewN | apply below_drew1) | exact HB.out))) : w.heap.size ≤ gb102)); have n3_ := Aside0.mk ((by rw [hg]; exact (below_size (by repeat (first | (with_reducible first | exact HB.out | apply below_alloc | apply pw_below_drewN | apply below_drew1) | exact HB.out))) : w.heap.size ≤ gb102)); clear HB; have HB := n0_; have BK102 := n1_; have GW102 := n2_; have GE102 := n3_; clear n0_ n1_ n2_ n3_; clear hb hbox hg; have hcz75_0 : w74.cell? ⟨gb102, 0, none⟩ = some (.int .i64 0) := (blk_cell BK102.out 0).trans rfl; have hcz75_1 : w74.cell? ⟨gb102, 1, none⟩ = some (.int .i64 0) := (blk_cell BK102.out 1).trans rfl; have hcz75_2 : w74.cell? ⟨gb102, 2, none⟩ = some (.int .i64 0) := (blk_cell BK102.out 2).trans rfl; have hcz75_3 : w74.cell? ⟨gb102, 3, none⟩ = some (.int .i64 0) := (blk_cell BK102.out 3).trans rfl; have hcz75_4 : w74.cell? ⟨gb102, 4, none⟩ = some (.int .i64 0) := (blk_cell BK102.out 4).trans rfl; have hfz75_0 := blk_frozen BK102.out 0; have hfz75_1 := blk_frozen BK102.out 1; have hfz75_2 := blk_frozen BK102.out 2; have hfz75_3 := blk_frozen BK102.out 3; have hfz75_4 := blk_frozen BK102.out 4))
                    go_ret
                    exact ⟨by first | rfl | (simp [errW_none, errW_some] <;> rfl) | (simp [*, errW_none, errW_some] <;> rfl), by repeat (first | (with_reducible first | exact HB.out | apply below_alloc | apply pw_below_drewN | apply below_drew1 | refine below_set ?_ GE102.out) | exact HB.out)⟩
                · rw [if_neg c70] at H
                  have c70b0 : decide (0 ≤ ((rd_T36 l0 x9_1).f0)) = false := decide_eq_false c70
                  clear c70
                  obtain rfl := Option.some.inj H
                  have p101 : 0 ≤ (x9_1 : Int) := of_decide_eq_true (by first | (with_reducible assumption) | assumption)
                  have q101 : x9_1 < (l0.length : Int) := of_decide_eq_true (by first | (with_reducible assumption) | assumption)
                  obtain ⟨ad101, e101, hx101_0, hx101_1, hx101_2, hx101_3, hx101_4⟩ := at_T36 HR0.out x9_1 p101 q101
                  cases e101
                  replace hx101_0 := (HB.out.cell (World.block_lt_of_cell? w _ hx101_0)).trans hx101_0
                  replace hx101_1 := (HB.out.cell (World.block_lt_of_cell? w _ hx101_1)).trans hx101_1
                  replace hx101_2 := (HB.out.cell (World.block_lt_of_cell? w _ hx101_2)).trans hx101_2
                  replace hx101_3 := (HB.out.cell (World.block_lt_of_cell? w _ hx101_3)).trans hx101_3
                  replace hx101_4 := (HB.out.cell (World.block_lt_of_cell? w _ hx101_4)).trans hx101_4
                  replace p101 := eq_true p101
                  replace q101 := eq_true q101
                  go_wp2_with (first | ((with_reducible refine gate_dst (N := 4) rfl ?_); (try (refine gate_guard (by rfl) ?_; dsimp only)); refine box_event ?hg (N := 4) ?hd (cs := #[.int .i64 0, .int .i64 0, .int .i64 0, .int .i64 0, .int .i64 0]) (t := 36) ?hr ?_; (case hd => rfl); (case hg => rfl); (case hr => first | (go_simp; done) | (go_simp; rfl)); intro gb102 hg w76 hbox hb; have n0_ := Aside0.mk (below_step (by repeat (first | (with_reducible first | exact HB.out | apply below_alloc | apply pw_below_drewN | apply below_drew1) | exact HB.out)) hb); have n1_ := Aside0.mk (hbox); have n2_ := Aside0.mk ((by rw [hg]; exact (below_size (by repeat (first | (with_reducible first | exact HB.out | apply below_alloc | apply pw_below_drewN | apply below_drew1) | exact HB.out))) : w.heap.size ≤ gb102)); have n3_ := Aside0.mk ((by rw [hg]; exact (below_size (by repeat (first | (with_reducible first | exact HB.out | apply below_alloc | apply pw_below_drewN | apply below_drew1) | exact HB.out))) : w.heap.size ≤ gb102)); clear HB; have HB := n0_; have BK102 := n1_; have GW102 := n2_; have GE102 := n3_; clear n0_ n1_ n2_ n3_; clear hb hbox hg; have hcz77_0 : w76.cell? ⟨gb102, 0, none⟩ = some (.int .i64 0) := (blk_cell BK102.out 0).trans rfl; have hcz77_1 : w76.cell? ⟨gb102, 1, none⟩ = some (.int .i64 0) := (blk_cell BK102.out 1).trans rfl; have hcz77_2 : w76.cell? ⟨gb102, 2, none⟩ = some (.int .i64 0) := (blk_cell BK102.out 2).trans rfl; have hcz77_3 : w76.cell? ⟨gb102, 3, none⟩ = some (.int .i64 0) := (blk_cell BK102.out 3).trans rfl; have hcz77_4 : w76.cell? ⟨gb102, 4, none⟩ = some (.int .i64 0) := (blk_cell BK102.out 4).trans rfl; have hfz77_0 := blk_frozen BK102.out 0; have hfz77_1 := blk_frozen BK102.out 1; have hfz77_2 := blk_frozen BK102.out 2; have hfz77_3 := blk_frozen BK102.out 3; have hfz77_4 := blk_frozen BK102.out 4))
                  go_ret
                  exact ⟨by first | rfl | (simp [errW_none, errW_some] <;> rfl) | (simp [*, errW_none, errW_some] <;> rfl), by repeat (first | (with_reducible first | exact HB.out | apply below_alloc | apply pw_below_drewN | apply below_drew1 | refine below_set ?_ GE102.out) | exact HB.out)⟩
            · rw [if_neg c5] at H
              have c5b0 : decide (1 ≤ ((rd_T36 l0 x9_1).f2)) = false := decide_eq_false c5
              clear c5
              by_cases c78 : ((rd_T36 l0 x9_1).f0) ≥ 0
              · rw [if_pos c78] at H
                have c78b0 : decide (0 ≤ ((rd_T36 l0 x9_1).f0)) = true := decide_eq_true c78
                clear c78
                by_cases c79 : ((rd_T36 l0 x9_1).f0) < 200
                · rw [if_pos c79] at H
                  have c79b0 : decide (((rd_T36 l0 x9_1).f0) < 200) = true := decide_eq_true c79
                  clear c79
                  obtain rfl := Option.some.inj H
                  have p101 : 0 ≤ (x9_1 : Int) := of_decide_eq_true (by first | (with_reducible assumption) | assumption)
                  have q101 : x9_1 < (l0.length : Int) := of_decide_eq_true (by first | (with_reducible assumption) | assumption)
                  obtain ⟨ad101, e101, hx101_0, hx101_1, hx101_2, hx101_3, hx101_4⟩ := at_T36 HR0.out x9_1 p101 q101
                  cases e101
                  replace hx101_0 := (HB.out.cell (World.block_lt_of_cell? w _ hx101_0)).trans hx101_0
                  replace hx101_1 := (HB.out.cell (World.block_lt_of_cell? w _ hx101_1)).trans hx101_1
                  replace hx101_2 := (HB.out.cell (World.block_lt_of_cell? w _ hx101_2)).trans hx101_2
                  replace hx101_3 := (HB.out.cell (World.block_lt_of_cell? w _ hx101_3)).trans hx101_3
                  replace hx101_4 := (HB.out.cell (World.block_lt_of_cell? w _ hx101_4)).trans hx101_4
                  replace p101 := eq_true p101
                  replace q101 := eq_true q101
                  go_wp2_with (first | ((with_reducible refine gate_dst (N := 4) rfl ?_); (try (refine gate_guard (by rfl) ?_; dsimp only)); refine box_event ?hg (N := 4) ?hd (cs := #[.int .i64 0, .int .i64 0, .int .i64 0, .int .i64 0, .int .i64 0]) (t := 36) ?hr ?_; (case hd => rfl); (case hg => rfl); (case hr => first | (go_simp; done) | (go_simp; rfl)); intro gb102 hg w80 hbox hb; have n0_ := Aside0.mk (below_step (by repeat (first | (with_reducible first | exact HB.out | apply below_alloc | apply pw_below_drewN | apply below_drew1) | exact HB.out)) hb); have n1_ := Aside0.mk (hbox); have n2_ := Aside0.mk ((by rw [hg]; exact (below_size (by repeat (first | (with_reducible first | exact HB.out | apply below_alloc | apply pw_below_drewN | apply below_drew1) | exact HB.out))) : w.heap.size ≤ gb102)); have n3_ := Aside0.mk ((by rw [hg]; exact (below_size (by repeat (first | (with_reducible first | exact HB.out | apply below_alloc | apply pw_below_drewN | apply below_drew1) | exact HB.out))) : w.heap.size ≤ gb102)); clear HB; have HB := n0_; have BK102 := n1_; have GW102 := n2_; have GE102 := n3_; clear n0_ n1_ n2_ n3_; clear hb hbox hg; have hcz81_0 : w80.cell? ⟨gb102, 0, none⟩ = some (.int .i64 0) := (blk_cell BK102.out 0).trans rfl; have hcz81_1 : w80.cell? ⟨gb102, 1, none⟩ = some (.int .i64 0) := (blk_cell BK102.out 1).trans rfl; have hcz81_2 : w80.cell? ⟨gb102, 2, none⟩ = some (.int .i64 0) := (blk_cell BK102.out 2).trans rfl; have hcz81_3 : w80.cell? ⟨gb102, 3, none⟩ = some (.int .i64 0) := (blk_cell BK102.out 3).trans rfl; have hcz81_4 : w80.cell? ⟨gb102, 4, none⟩ = some (.int .i64 0) := (blk_cell BK102.out 4).trans rfl; have hfz81_0 := blk_frozen BK102.out 0; have hfz81_1 := blk_frozen BK102.out 1; have hfz81_2 := blk_frozen BK102.out 2; have hfz81_3 := blk_frozen BK102.out 3; have hfz81_4 := blk_frozen BK102.out 4))
                  go_ret
                  exact ⟨by first | rfl | (simp [errW_none, errW_some] <;> rfl) | (simp [*, errW_none, errW_some] <;> rfl), by repeat (first | (with_reducible first | exact HB.out | apply below_alloc | apply pw_below_drewN | apply below_drew1 | refine below_set ?_ GE102.out) | exact HB.out)⟩
                · rw [if_neg c79] at H
                  have c79b0 : decide (((rd_T36 l0 x9_1).f0) < 200) = false := decide_eq_false c79
                  clear c79
                  obtain rfl := Option.some.inj H
                  have p101 : 0 ≤ (x9_1 : Int) := of_decide_eq_true (by first | (with_reducible assumption) | assumption)
                  have q101 : x9_1 < (l0.length : Int) := of_decide_eq_true (by first | (with_reducible assumption) | assumption)
                  obtain ⟨ad101, e101, hx101_0, hx101_1, hx101_2, hx101_3, hx101_4⟩ := at_T36 HR0.out x9_1 p101 q101
                  cases e101
                  replace hx101_0 := (HB.out.cell (World.block_lt_of_cell? w _ hx101_0)).trans hx101_0
                  replace hx101_1 := (HB.out.cell (World.block_lt_of_cell? w _ hx101_1)).trans hx101_1
                  replace hx101_2 := (HB.out.cell (World.block_lt_of_cell? w _ hx101_2)).trans hx101_2
                  replace hx101_3 := (HB.out.cell (World.block_lt_of_cell? w _ hx101_3)).trans hx101_3
                  replace hx101_4 := (HB.out.cell (World.block_lt_of_cell? w _ hx101_4)).trans hx101_4
                  replace p101 := eq_true p101
                  replace q101 := eq_true q101
                  go_wp2_with (first | ((with_reducible refine gate_dst (N := 4) rfl ?_); (try (refine gate_guard (by rfl) ?_; dsimp only)); refine box_event ?hg (N := 4) ?hd (cs := #[.int .i64 0, .int .i64 0, .int .i64 0, .int .i64 0, .int .i64 0]) (t := 36) ?hr ?_; (case hd => rfl); (case hg => rfl); (case hr => first | (go_simp; done) | (go_simp; rfl)); intro gb102 hg w82 hbox hb; have n0_ := Aside0.mk (below_step (by repeat (first | (with_reducible first | exact HB.out | apply below_alloc | apply pw_below_drewN | apply below_drew1) | exact HB.out)) hb); have n1_ := Aside0.mk (hbox); have n2_ := Aside0.mk ((by rw [hg]; exact (below_size (by repeat (first | (with_reducible first | exact HB.out | apply below_alloc | apply pw_below_drewN | apply below_drew1) | exact HB.out))) : w.heap.size ≤ gb102)); have n3_ := Aside0.mk ((by rw [hg]; exact (below_size (by repeat (first | (with_reducible first | exact HB.out | apply below_alloc | apply pw_below_drewN | apply below_drew1) | exact HB.out))) : w.heap.size ≤ gb102)); clear HB; have HB := n0_; have BK102 := n1_; have GW102 := n2_; have GE102 := n3_; clear n0_ n1_ n2_ n3_; clear hb hbox hg; have hcz83_0 : w82.cell? ⟨gb102, 0, none⟩ = some (.int .i64 0) := (blk_cell BK102.out 0).trans rfl; have hcz83_1 : w82.cell? ⟨gb102, 1, none⟩ = some (.int .i64 0) := (blk_cell BK102.out 1).trans rfl; have hcz83_2 : w82.cell? ⟨gb102, 2, none⟩ = some (.int .i64 0) := (blk_cell BK102.out 2).trans rfl; have hcz83_3 : w82.cell? ⟨gb102, 3, none⟩ = some (.int .i64 0) := (blk_cell BK102.out 3).trans rfl; have hcz83_4 : w82.cell? ⟨gb102, 4, none⟩ = some (.int .i64 0) := (blk_cell BK102.out 4).trans rfl; have hfz83_0 := blk_frozen BK102.out 0; have hfz83_1 := blk_frozen BK102.out 1; have hfz83_2 := blk_frozen BK102.out 2; have hfz83_3 := blk_frozen BK102.out 3; have hfz83_4 := blk_frozen BK102.out 4))
                  go_ret
                  exact ⟨by first | rfl | (simp [errW_none, errW_some] <;> rfl) | (simp [*, errW_none, errW_some] <;> rfl), by repeat (first | (with_reducible first | exact HB.out | apply below_alloc | apply pw_below_drewN | apply below_drew1 | refine below_set ?_ GE102.out) | exact HB.out)⟩
              · rw [if_neg c78] at H
                have c78b0 : decide (0 ≤ ((rd_T36 l0 x9_1).f0)) = false := decide_eq_false c78
                clear c78
                obtain rfl := Option.some.inj H
                have p101 : 0 ≤ (x9_1 : Int) := of_decide_eq_true (by first | (with_reducible assumption) | assumption)
                have q101 : x9_1 < (l0.length : Int) := of_decide_eq_true (by first | (with_reducible assumption) | assumption)
                obtain ⟨ad101, e101, hx101_0, hx101_1, hx101_2, hx101_3, hx101_4⟩ := at_T36 HR0.out x9_1 p101 q101
                cases e101
                replace hx101_0 := (HB.out.cell (World.block_lt_of_cell? w _ hx101_0)).trans hx101_0
                replace hx101_1 := (HB.out.cell (World.block_lt_of_cell? w _ hx101_1)).trans hx101_1
                replace hx101_2 := (HB.out.cell (World.block_lt_of_cell? w _ hx101_2)).trans hx101_2
                replace hx101_3 := (HB.out.cell (World.block_lt_of_cell? w _ hx101_3)).trans hx101_3
                replace hx101_4 := (HB.out.cell (World.block_lt_of_cell? w _ hx101_4)).trans hx101_4
                replace p101 := eq_true p101
                replace q101 := eq_true q101
                go_wp2_with (first | ((with_reducible refine gate_dst (N := 4) rfl ?_); (try (refine gate_guard (by rfl) ?_; dsimp only)); refine box_event ?hg (N := 4) ?hd (cs := #[.int .i64 0, .int .i64 0, .int .i64 0, .int .i64 0, .int .i64 0]) (t := 36) ?hr ?_; (case hd => rfl); (case hg => rfl); (case hr => first | (go_simp; done) | (go_simp; rfl)); intro gb102 hg w84 hbox hb; have n0_ := Aside0.mk (below_step (by repeat (first | (with_reducible first | exact HB.out | apply below_alloc | apply pw_below_drewN | apply below_drew1) | exact HB.out)) hb); have n1_ := Aside0.mk (hbox); have n2_ := Aside0.mk ((by rw [hg]; exact (below_size (by repeat (first | (with_reducible first | exact HB.out | apply below_alloc | apply pw_below_drewN | apply below_drew1) | exact HB.out))) : w.heap.size ≤ gb102)); have n3_ := Aside0.mk ((by rw [hg]; exact (below_size (by repeat (first | (with_reducible first | exact HB.out | apply below_alloc | apply pw_below_drewN | apply below_drew1) | exact HB.out))) : w.heap.size ≤ gb102)); clear HB; have HB := n0_; have BK102 := n1_; have GW102 := n2_; have GE102 := n3_; clear n0_ n1_ n2_ n3_; clear hb hbox hg; have hcz85_0 : w84.cell? ⟨gb102, 0, none⟩ = some (.int .i64 0) := (blk_cell BK102.out 0).trans rfl; have hcz85_1 : w84.cell? ⟨gb102, 1, none⟩ = some (.int .i64 0) := (blk_cell BK102.out 1).trans rfl; have hcz85_2 : w84.cell? ⟨gb102, 2, none⟩ = some (.int .i64 0) := (blk_cell BK102.out 2).trans rfl; have hcz85_3 : w84.cell? ⟨gb102, 3, none⟩ = some (.int .i64 0) := (blk_cell BK102.out 3).trans rfl; have hcz85_4 : w84.cell? ⟨gb102, 4, none⟩ = some (.int .i64 0) := (blk_cell BK102.out 4).trans rfl; have hfz85_0 := blk_frozen BK102.out 0; have hfz85_1 := blk_frozen BK102.out 1; have hfz85_2 := blk_frozen BK102.out 2; have hfz85_3 := blk_frozen BK102.out 3; have hfz85_4 := blk_frozen BK102.out 4))
                go_ret
                exact ⟨by first | rfl | (simp [errW_none, errW_some] <;> rfl) | (simp [*, errW_none, errW_some] <;> rfl), by repeat (first | (with_reducible first | exact HB.out | apply below_alloc | apply pw_below_drewN | apply below_drew1 | refine below_set ?_ GE102.out) | exact HB.out)⟩
          · rw [if_neg c4] at H
            exact absurd H (by simp)
        · rw [if_neg c3] at H
          exact absurd H (by simp)
      · rw [if_neg c2] at H
        have c2b0 : decide (x9_1 < (l0.length : Int)) = false := decide_eq_false c2
        clear c2
        obtain rfl := Option.some.inj H
        go_wp2
        go_ret
        exact ⟨by first | rfl | (simp [errW_none, errW_some] <;> rfl) | (simp [*, errW_none, errW_some] <;> rfl), by repeat (first | (with_reducible first | exact HB.out | apply below_alloc | apply pw_below_drewN | apply below_drew1) | exact HB.out)⟩

end Go.Proofs.YthjlneaedajkmaaGreatDoor.PAtomTells
