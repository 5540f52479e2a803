import Derived.Test.YthjlneaedajkmaaGreatDoorTx0
namespace Go.Proofs.YthjlneaedajkmaaGreatDoor.PAtomTells
open Go.RowKit Go.Proofs.YthjlneaedajkmaaGreatDoorW.PrintWords Go.Proofs.YthjlneaedajkmaaGreatDoorW.PrintLast Go.Proofs.YthjlneaedajkmaaGreatDoorW.PrintMore
attribute [local go_sem] max2_int min2_int max_two min_two max_three min_three max_four min_four   -- for this text's walks alone
set_option linter.unusedVariables false
set_option linter.unusedSimpArgs false

theorem cutW {P : Program} {ops : Array Oper} {Q : Exit → Act → World → Prop} {rest : List Oper} {a : Act} {W : World} (F : World → Prop) (hF : F W) (h : ∀ W9, F W9 → wpList P ops Q rest a W9) : wpList P ops Q rest a W := h W hF

/-! ### gutterlaw13_Few: function 12 -/
def gutterlaw13_Few.l0 : Nat → List (S36) → Int → List (S36) → Int → Option ((List (S36)))
  | 0, _, _, _, _ => none
  | k + 1, x0, x3, x4, x5 => if x5 < (x0.length : Int) then (if x5 < 150 then (if 0 ≤ x5 then (if x4.length < 3518437208883 then (gutterlaw13_Few.l0 k x0 x3 (x4 ++ [(⟨(rd_T36 x0 x5).f0, (rd_T36 x0 x5).f1, mx (wrap64 (-x3)) (mn ((rd_T36 x0 x5).f2) x3), mx (wrap64 (-x3)) (mn ((rd_T36 x0 x5).f3) x3), (rd_T36 x0 x5).f4⟩ : S36)]) (wrap64 (x5 + 1))) else (none)) else (none)) else (some x4)) else (some x4)
def gutterlaw13_Few.f (k : Nat) (l0 : List (S36)) : Option ((List (S36))) := gutterlaw13_Few.l0 k l0 1099511627776 ([] : List (S36)) 0
theorem gutterlaw13_Few.mono_l : ∀ k, (∀ y0 y1 y2 y3, LeO (gutterlaw13_Few.l0 k y0 y1 y2 y3) (gutterlaw13_Few.l0 (k + 1) y0 y1 y2 y3))
  | 0 => fun _ _ _ _ r h => by simp [gutterlaw13_Few.l0] at h
  | k + 1 => by
    have ih0 := gutterlaw13_Few.mono_l k
    · intro y0 y1 y2 y3
      unfold gutterlaw13_Few.l0
      repeat' first
      | (with_reducible exact ih0 _ _ _ _)
      | (with_reducible exact LeO.refl _)
      | (with_reducible exact LeO.none _)
      | (with_reducible refine LeO.ite ?_ ?_)
      | (with_reducible refine LeO.bind ?_ (fun _ => ?_))
      | exact ih0 _ _ _ _
      | exact LeO.none _
      | refine LeO.ite ?_ ?_
      | refine LeO.bind ?_ (fun _ => ?_)
theorem gutterlaw13_Few.mono : ∀ a0 k, LeO (gutterlaw13_Few.f k a0) (gutterlaw13_Few.f (k + 1) a0) := by
  intro a0 k
  have ih0 := gutterlaw13_Few.mono_l k
  unfold gutterlaw13_Few.f
  repeat' first
      | (with_reducible exact ih0 _ _ _ _)
      | (with_reducible exact LeO.refl _)
      | (with_reducible exact LeO.none _)
      | (with_reducible refine LeO.ite ?_ ?_)
      | (with_reducible refine LeO.bind ?_ (fun _ => ?_))
      | exact ih0 _ _ _ _
      | exact LeO.none _
      | refine LeO.ite ?_ ?_
      | refine LeO.bind ?_ (fun _ => ?_)
set_option maxHeartbeats 8000000 in
set_option maxRecDepth 100000 in
theorem gutterlaw13_Few.calls (k : Nat) (A0 : Option Addr) (c0 : Nat) (l0 : List (S36)) (r : List (S36)) (w : World) (hr0 : Kd.C k36 w A0 l0.length l0) (hc0 : l0.length ≤ c0) (h : gutterlaw13_Few.f k l0 = some r) :
    Calls Tryz.prog 12 #[.slice A0 l0.length c0] w fun e w' => ∃ v0_ : Value, e = .returned (v0_) ∧ Kd.R k36 36 w' w.heap.size (fun _ => True) v0_ r ∧ Below w.heap.size w w' := by
  have hu36 := Tryz.underlying36
  have HR0 := Aside0.mk hr0
  have HC0 := Aside0.mk hc0
  clear hr0 hc0
  have HB := Aside0.mk (Below.refl w.heap.size w)
  have H : (gutterlaw13_Few.l0 k l0 1099511627776 ([] : List (S36)) 0) = some r := h
  clear h
  have H' := Aside0.mk H
  clear H
  go_enter Tryz.func12, Tryz.ntmps12
  go_wp2
  go_loopg [4, 5] k (fun kq v4 v5 w' => ∃ (x4_1 : List (S36)) (x5_1 : Int), v5 = .int .i64 x5_1 ∧ Aside0 (gutterlaw13_Few.l0 kq l0 1099511627776 x4_1 x5_1 = some r) ∧ Aside0 (kq ≤ k) ∧ Aside0 (Kd.R k36 36 w' w.heap.size (fun _ => True) v4 x4_1) ∧ Aside0 (Below w.heap.size w w'))
  case atStart => exact ⟨(([] : List (S36))), (0), (by first | rfl | (simp; done) | (simp [*]; done)), H', ⟨Nat.le_refl _⟩, ⟨by first | exact Kd.R_nil _ _ _ _ _ | exact Kd.N_nil _ _ _ _ _ | exact Kd.V_nil _ _ _ _ _ | exact Kd.Q_nil _ _ _ _ _ | exact Kd.S_nil _ _ _ _ _⟩, ⟨by repeat (first | (with_reducible first | exact HB.out | apply below_alloc | apply pw_below_drewN | apply below_drew1) | exact HB.out)⟩⟩
  case round =>
    clear H'
    try clear c1
    obtain ⟨x4_1, x5_1, rfl, HA, HK1, HO_4, HB⟩ := hrel
    cases gk with
    | zero => exact absurd HA.out (by simp [gutterlaw13_Few.l0])
    | succ k1 =>
      have H := HA.out
      clear HA
      simp only [gutterlaw13_Few.l0] at H
      by_cases c2 : x5_1 < (l0.length : Int)
      · rw [if_pos c2] at H
        have c2b0 : decide (x5_1 < (l0.length : Int)) = true := decide_eq_true c2
        clear c2
        by_cases c3 : x5_1 < 150
        · rw [if_pos c3] at H
          have c3b0 : decide (x5_1 < 150) = true := decide_eq_true c3
          clear c3
          by_cases c4 : 0 ≤ x5_1
          · rw [if_pos c4] at H
            have c4b0 : decide (0 ≤ x5_1) = true := decide_eq_true c4
            clear c4
            obtain ⟨ji5, hji5⟩ : ∃ j_ : Int, (mn ((rd_T36 l0 x5_1).f2) 1099511627776) = j_ := ⟨_, rfl⟩
            replace H : (if x4_1.length < 3518437208883 then (gutterlaw13_Few.l0 k1 l0 1099511627776 (x4_1 ++ [(⟨(rd_T36 l0 x5_1).f0, (rd_T36 l0 x5_1).f1, mx (wrap64 (-1099511627776)) (ji5), mx (wrap64 (-1099511627776)) (mn ((rd_T36 l0 x5_1).f3) 1099511627776), (rd_T36 l0 x5_1).f4⟩ : S36)]) (wrap64 (x5_1 + 1))) else (none)) = some r := by first | (rw [hji5] at H; exact H) | (simp only [hji5] at H ⊢; exact H)
            have hji5_ : (if 1099511627776 < ((rd_T36 l0 x5_1).f2) then 1099511627776 else ((rd_T36 l0 x5_1).f2)) = ji5 := hji5
            obtain ⟨ji6, hji6⟩ : ∃ j_ : Int, (mx (wrap64 (-1099511627776)) (ji5)) = j_ := ⟨_, rfl⟩
            replace H : (if x4_1.length < 3518437208883 then (gutterlaw13_Few.l0 k1 l0 1099511627776 (x4_1 ++ [(⟨(rd_T36 l0 x5_1).f0, (rd_T36 l0 x5_1).f1, ji6, mx (wrap64 (-1099511627776)) (mn ((rd_T36 l0 x5_1).f3) 1099511627776), (rd_T36 l0 x5_1).f4⟩ : S36)]) (wrap64 (x5_1 + 1))) else (none)) = some r := by first | (rw [hji6] at H; exact H) | (simp only [hji6] at H ⊢; exact H)
            have hji6_ : (if (wrap64 (-1099511627776)) < (ji5) then (ji5) else (wrap64 (-1099511627776))) = ji6 := hji6
            obtain ⟨ji7, hji7⟩ : ∃ j_ : Int, (mn ((rd_T36 l0 x5_1).f3) 1099511627776) = j_ := ⟨_, rfl⟩
            replace H : (if x4_1.length < 3518437208883 then (gutterlaw13_Few.l0 k1 l0 1099511627776 (x4_1 ++ [(⟨(rd_T36 l0 x5_1).f0, (rd_T36 l0 x5_1).f1, ji6, mx (wrap64 (-1099511627776)) (ji7), (rd_T36 l0 x5_1).f4⟩ : S36)]) (wrap64 (x5_1 + 1))) else (none)) = some r := by first | (rw [hji7] at H; exact H) | (simp only [hji7] at H ⊢; exact H)
            have hji7_ : (if 1099511627776 < ((rd_T36 l0 x5_1).f3) then 1099511627776 else ((rd_T36 l0 x5_1).f3)) = ji7 := hji7
            obtain ⟨ji8, hji8⟩ : ∃ j_ : Int, (mx (wrap64 (-1099511627776)) (ji7)) = j_ := ⟨_, rfl⟩
            replace H : (if x4_1.length < 3518437208883 then (gutterlaw13_Few.l0 k1 l0 1099511627776 (x4_1 ++ [(⟨(rd_T36 l0 x5_1).f0, (rd_T36 l0 x5_1).f1, ji6, ji8, (rd_T36 l0 x5_1).f4⟩ : S36)]) (wrap64 (x5_1 + 1))) else (none)) = some r := by first | (rw [hji8] at H; exact H) | (simp only [hji8] at H ⊢; exact H)
            have hji8_ : (if (wrap64 (-1099511627776)) < (ji7) then (ji7) else (wrap64 (-1099511627776))) = ji8 := hji8
            have ew_ : wrap64 (-1099511627776) = -1099511627776 := by unfold wrap64; omega
            rw [ew_] at hji6_ hji8_
            clear hji5 hji6 hji7 hji8
            by_cases c9 : x4_1.length < 3518437208883
            · rw [if_pos c9] at H
              have LMc9 := Aside0.mk c9
              clear c9
              obtain ⟨y109, hy109⟩ : ∃ y_ : List (S36), y_ = (x4_1 ++ [(⟨(rd_T36 l0 x5_1).f0, (rd_T36 l0 x5_1).f1, ji6, ji8, (rd_T36 l0 x5_1).f4⟩ : S36)]) := ⟨_, rfl⟩
              replace H : (gutterlaw13_Few.l0 k1 l0 1099511627776 y109 (wrap64 (x5_1 + 1))) = some r := by first | (rw [hy109]; with_reducible exact H) | (have H2_ := (Option.bind_some _ _).symm.trans H; rw [hy109]; with_reducible exact H2_) | (have H2_ := (Option.bind_some _ _).symm.trans H; with_reducible exact H2_) | with_reducible exact H | (rw [hy109]; exact H) | exact H
              have Ny109 := Aside0.mk hy109
              clear hy109
              have H' := Aside0.mk H
              clear H
              have p107 : 0 ≤ (x5_1 : Int) := of_decide_eq_true (by first | (with_reducible assumption) | assumption)
              have q107 : x5_1 < (l0.length : Int) := of_decide_eq_true (by first | (with_reducible assumption) | assumption)
              obtain ⟨ad107, e107, hx107_0, hx107_1, hx107_2, hx107_3, hx107_4⟩ := at_T36 HR0.out x5_1 p107 q107
              cases e107
              replace hx107_0 := (HB.out.cell (World.block_lt_of_cell? w _ hx107_0)).trans hx107_0
              replace hx107_1 := (HB.out.cell (World.block_lt_of_cell? w _ hx107_1)).trans hx107_1
              replace hx107_2 := (HB.out.cell (World.block_lt_of_cell? w _ hx107_2)).trans hx107_2
              replace hx107_3 := (HB.out.cell (World.block_lt_of_cell? w _ hx107_3)).trans hx107_3
              replace hx107_4 := (HB.out.cell (World.block_lt_of_cell? w _ hx107_4)).trans hx107_4
              replace p107 := eq_true p107
              replace q107 := eq_true q107
              go_wp2_with (first | ((with_reducible refine gate_dst (N := 6) rfl ?_); refine box_event ?hg (N := 6) ?hd (cs := #[.int .i64 0, .int .i64 0, .int .i64 0, .int .i64 0, .int .i64 0]) (t := 36) ?hr ?_; (case hd => rfl); (case hg => rfl); (case hr => first | (go_simp; done) | (go_simp; rfl)); intro gb108 hg w10 hbox hb; have n0_ := Aside0.mk (Kd.R_below (Kd.R_elderB (by (with_reducible repeat (first | apply Kd.R_alloc | apply Kd.R_drewN | apply Kd.R_drew)); exact HO_4.out) gb108 (Nat.le_of_eq hg.symm)) hb); have n1_ := Aside0.mk (below_step (by repeat (first | (with_reducible first | exact HB.out | apply below_alloc | apply pw_below_drewN | apply below_drew1) | exact HB.out)) hb); have n2_ := Aside0.mk (hbox); have n3_ := Aside0.mk ((by rw [hg]; exact (below_size (by repeat (first | (with_reducible first | exact HB.out | apply below_alloc | apply pw_below_drewN | apply below_drew1) | exact HB.out))) : w.heap.size ≤ gb108)); have n4_ := Aside0.mk ((by rw [hg]; exact (below_size (by repeat (first | (with_reducible first | exact HB.out | apply below_alloc | apply pw_below_drewN | apply below_drew1) | exact HB.out))) : w.heap.size ≤ gb108)); clear HO_4; clear HB; have HO_4 := n0_; have HB := n1_; have BK108 := n2_; have GW108 := n3_; have GE108 := n4_; clear n0_ n1_ n2_ n3_ n4_; clear hb hbox hg; have hcz11_0 : w10.cell? ⟨gb108, 0, none⟩ = some (.int .i64 0) := (blk_cell BK108.out 0).trans rfl; have hcz11_1 : w10.cell? ⟨gb108, 1, none⟩ = some (.int .i64 0) := (blk_cell BK108.out 1).trans rfl; have hcz11_2 : w10.cell? ⟨gb108, 2, none⟩ = some (.int .i64 0) := (blk_cell BK108.out 2).trans rfl; have hcz11_3 : w10.cell? ⟨gb108, 3, none⟩ = some (.int .i64 0) := (blk_cell BK108.out 3).trans rfl; have hcz11_4 : w10.cell? ⟨gb108, 4, none⟩ = some (.int .i64 0) := (blk_cell BK108.out 4).trans rfl; have hfz11_0 := blk_frozen BK108.out 0; have hfz11_1 := blk_frozen BK108.out 1; have hfz11_2 := blk_frozen BK108.out 2; have hfz11_3 := blk_frozen BK108.out 3; have hfz11_4 := blk_frozen BK108.out 4) | ((with_reducible refine gate_dst (N := 38) rfl ?_); have gd_ := hcz11_0; refine cutW (fun W9 => W9.heap[gb108]? = some (.cells #[.int .i64 ((rd_T36 l0 x5_1).f0), .int .i64 ((rd_T36 l0 x5_1).f1), .int .i64 ji6, .int .i64 ji8, .int .i64 ((rd_T36 l0 x5_1).f4)] 36 (0, 0)) ∧ Below w.heap.size w W9 ∧ Kd.R k36 36 W9 w.heap.size (fun k_ => k_ ≠ gb108) u4 x4_1) ⟨(by (with_reducible repeat (first | refine blk_drewN ?_ _ | refine blk_drew ?_ | refine blk_alloc ?_ _)); refine blk_put (cs := #[.int .i64 ((rd_T36 l0 x5_1).f0), .int .i64 ((rd_T36 l0 x5_1).f1), .int .i64 ji6, .int .i64 ((rd_T36 l0 x5_1).f3), .int .i64 ((rd_T36 l0 x5_1).f4)]) ?_ 3 _ rfl; (with_reducible repeat (first | refine blk_drewN ?_ _ | refine blk_drew ?_ | refine blk_alloc ?_ _)); refine blk_put (cs := #[.int .i64 ((rd_T36 l0 x5_1).f0), .int .i64 ((rd_T36 l0 x5_1).f1), .int .i64 ((rd_T36 l0 x5_1).f2), .int .i64 ((rd_T36 l0 x5_1).f3), .int .i64 ((rd_T36 l0 x5_1).f4)]) ?_ 2 _ rfl; (with_reducible repeat (first | refine blk_drewN ?_ _ | refine blk_drew ?_ | refine blk_alloc ?_ _)); refine blk_put (cs := #[.int .i64 ((rd_T36 l0 x5_1).f0), .int .i64 ((rd_T36 l0 x5_1).f1), .int .i64 ((rd_T36 l0 x5_1).f2), .int .i64 ((rd_T36 l0 x5_1).f3), .int .i64 0]) ?_ 4 _ rfl; (with_reducible repeat (first | refine blk_drewN ?_ _ | refine blk_drew ?_ | refine blk_alloc ?_ _)); refine blk_put (cs := #[.int .i64 ((rd_T36 l0 x5_1).f0), .int .i64 ((rd_T36 l0 x5_1).f1), .int .i64 ((rd_T36 l0 x5_1).f2), .int .i64 0, .int .i64 0]) ?_ 3 _ rfl; (with_reducible repeat (first | refine blk_drewN ?_ _ | refine blk_drew ?_ | refine blk_alloc ?_ _)); refine blk_put (cs := #[.int .i64 ((rd_T36 l0 x5_1).f0), .int .i64 ((rd_T36 l0 x5_1).f1), .int .i64 0, .int .i64 0, .int .i64 0]) ?_ 2 _ rfl; (with_reducible repeat (first | refine blk_drewN ?_ _ | refine blk_drew ?_ | refine blk_alloc ?_ _)); refine blk_put (cs := #[.int .i64 ((rd_T36 l0 x5_1).f0), .int .i64 0, .int .i64 0, .int .i64 0, .int .i64 0]) ?_ 1 _ rfl; (with_reducible repeat (first | refine blk_drewN ?_ _ | refine blk_drew ?_ | refine blk_alloc ?_ _)); refine blk_put (cs := #[.int .i64 0, .int .i64 0, .int .i64 0, .int .i64 0, .int .i64 0]) ?_ 0 _ rfl; (with_reducible repeat (first | refine blk_drewN ?_ _ | refine blk_drew ?_ | refine blk_alloc ?_ _)); exact BK108.out), (by repeat (first | (with_reducible first | exact HB.out | apply below_alloc | apply pw_below_drewN | apply below_drew1 | refine below_set ?_ GE108.out) | exact HB.out)), (by (with_reducible repeat (first | apply Kd.R_alloc | apply Kd.R_drewN | apply Kd.R_drew)); exact Kd.R_mono (Kd.R_far (p := ⟨gb108, 3, none⟩) (Kd.R_far (p := ⟨gb108, 2, none⟩) (Kd.R_far (p := ⟨gb108, 4, none⟩) (Kd.R_far (p := ⟨gb108, 3, none⟩) (Kd.R_far (p := ⟨gb108, 2, none⟩) (Kd.R_far (p := ⟨gb108, 1, none⟩) (Kd.R_far (p := ⟨gb108, 0, none⟩) (Kd.R_mono HO_4.out (fun k_ hk => (⟨hk, hk.2⟩ : _ ∧ k_ ≠ gb108))) (fun _ hk => hk.2) (.int .i64 ((rd_T36 l0 x5_1).f0))) (fun _ hk => hk.2) (.int .i64 ((rd_T36 l0 x5_1).f1))) (fun _ hk => hk.2) (.int .i64 ((rd_T36 l0 x5_1).f2))) (fun _ hk => hk.2) (.int .i64 ((rd_T36 l0 x5_1).f3))) (fun _ hk => hk.2) (.int .i64 ((rd_T36 l0 x5_1).f4))) (fun _ hk => hk.2) (.int .i64 ji6)) (fun _ hk => hk.2) (.int .i64 ji8)) (fun _ hk => hk.1.2))⟩ ?_; clear gd_ hcz11_0 hcz11_1 hcz11_2 hcz11_3 hcz11_4 hfz11_0 hfz11_1 hfz11_2 hfz11_3 hfz11_4 HO_4 HB BK108; intro W9 hW9; obtain ⟨b9, hb9, ho9⟩ := hW9; have BK108 := Aside0.mk b9; have HB := Aside0.mk hb9; have HO_4 := Aside0.mk ho9; clear b9 hb9 ho9; have hcy_0 : W9.cell? ⟨gb108, 0, none⟩ = some (.int .i64 ((rd_T36 l0 x5_1).f0)) := (blk_cell BK108.out 0).trans rfl; have hcy_1 : W9.cell? ⟨gb108, 1, none⟩ = some (.int .i64 ((rd_T36 l0 x5_1).f1)) := (blk_cell BK108.out 1).trans rfl; have hcy_2 : W9.cell? ⟨gb108, 2, none⟩ = some (.int .i64 (ji6)) := (blk_cell BK108.out 2).trans rfl; have hcy_3 : W9.cell? ⟨gb108, 3, none⟩ = some (.int .i64 (ji8)) := (blk_cell BK108.out 3).trans rfl; have hcy_4 : W9.cell? ⟨gb108, 4, none⟩ = some (.int .i64 ((rd_T36 l0 x5_1).f4)) := (blk_cell BK108.out 4).trans rfl) | ((with_reducible refine gate_builtin (b := .append) (xs := #[.tmp 37, .tmp 39]) rfl ?_); at_builtin; refine Kd.R_append k36 (w0 := w) w.heap.size rfl (.tmp 37) (.tmp 39) 30 36 (.agg #[(.int .i64 0), (.int .i64 0), (.int .i64 0), (.int .i64 0), (.int .i64 0)]) 40 rfl Tryz.underlying30 info36 rfl (by decide) (by omega) u4 x4_1 (⟨(rd_T36 l0 x5_1).f0, (rd_T36 l0 x5_1).f1, ji6, ji8, (rd_T36 l0 x5_1).f4⟩ : S36) [.int .i64 ((rd_T36 l0 x5_1).f0), .int .i64 ((rd_T36 l0 x5_1).f1), .int .i64 ji6, .int .i64 ji8, .int .i64 ((rd_T36 l0 x5_1).f4)] (fun k_ => k_ ≠ gb108) (fun _ => False) rfl (by first | (go_simp; done) | (go_simp; rfl)) ?aP (fun _ hk => hk.elim) ?aF ?aO ?aB ?aS ?aL ?_; (case aP => exact k36_mkM _ _ _ (⟨(rd_T36 l0 x5_1).f0, (rd_T36 l0 x5_1).f1, ji6, ji8, (rd_T36 l0 x5_1).f4⟩ : S36)); (case aB => exact (by repeat (first | (with_reducible first | exact HB.out | apply below_alloc | apply pw_below_drewN | apply below_drew1 | refine below_set ?_ GE108.out) | exact HB.out))); (case aF => exact (fun k_ hk => Kd.freshB (g := gb108) (o := .cells #[.int .i64 ((rd_T36 l0 x5_1).f0), .int .i64 ((rd_T36 l0 x5_1).f1), .int .i64 ji6, .int .i64 ji8, .int .i64 ((rd_T36 l0 x5_1).f4)] 36 (0, 0)) (by (with_reducible repeat (first | refine blk_drewN ?_ _ | refine blk_drew ?_ | refine blk_alloc ?_ _)); exact BK108.out) k_ hk)); (case aO => exact (by (with_reducible repeat (first | apply Kd.R_alloc | apply Kd.R_drewN | apply Kd.R_drew)); exact HO_4.out)); (case aS => exact (below_size (by repeat (first | (with_reducible first | exact HB.out | apply below_alloc | apply pw_below_drewN | apply below_drew1 | refine below_set ?_ GE108.out) | exact HB.out)))); (case aL => have := LMc9.out; omega); intro v110 w12 ho hb hg hat; rw [← Ny109.out] at ho; have n0_ := Aside0.mk (blk_grown (g := gb108) (o := .cells #[.int .i64 ((rd_T36 l0 x5_1).f0), .int .i64 ((rd_T36 l0 x5_1).f1), .int .i64 ji6, .int .i64 ji8, .int .i64 ((rd_T36 l0 x5_1).f4)] 36 (0, 0)) (by (with_reducible repeat (first | refine blk_drewN ?_ _ | refine blk_drew ?_ | refine blk_alloc ?_ _)); exact BK108.out) hg (Kd.R_away HO_4.out (fun _ hk => hk))); have n1_ := Aside0.mk (hb); have n2_ := Aside0.mk (ho); clear BK108; clear HB; clear HO_4; have BK108 := n0_; have HB := n1_; have HO111 := n2_; clear n0_ n1_ n2_; clear ho hb hg hat))
              go_roundg k1
              case measure => have := HK1.out; omega
              case rel => exact ⟨(y109), (wrap64 (x5_1 + 1)), (by first | rfl | (simp; done) | (simp [*]; done)), H', ⟨by have := HK1.out; omega⟩, ⟨by (with_reducible repeat (first | apply Kd.R_alloc | apply Kd.R_drewN | apply Kd.R_drew)); exact Kd.R_mono HO111.out (fun _ hk => trivial)⟩, ⟨by repeat (first | (with_reducible first | exact HB.out | apply below_alloc | apply pw_below_drewN | apply below_drew1 | refine below_set ?_ GE108.out) | exact HB.out)⟩⟩
            · rw [if_neg c9] at H
              exact absurd H (by simp)
          · rw [if_neg c4] at H
            exact absurd H (by simp)
        · rw [if_neg c3] at H
          have c3b0 : decide (x5_1 < 150) = false := decide_eq_false c3
          clear c3
          obtain rfl := Option.some.inj H
          go_wp2
          go_ret
          exact ⟨_, by first | rfl | (simp [errW_none, errW_some] <;> rfl) | (simp [*, errW_none, errW_some] <;> rfl), by (with_reducible repeat (first | apply Kd.R_alloc | apply Kd.R_drewN | apply Kd.R_drew)); exact HO_4.out, by repeat (first | (with_reducible first | exact HB.out | apply below_alloc | apply pw_below_drewN | apply below_drew1) | exact HB.out)⟩
      · rw [if_neg c2] at H
        have c2b0 : decide (x5_1 < (l0.length : Int)) = false := decide_eq_false c2
        clear c2
        obtain rfl := Option.some.inj H
        go_wp2
        go_ret
        exact ⟨_, by first | rfl | (simp [errW_none, errW_some] <;> rfl) | (simp [*, errW_none, errW_some] <;> rfl), by (with_reducible repeat (first | apply Kd.R_alloc | apply Kd.R_drewN | apply Kd.R_drew)); exact HO_4.out, by repeat (first | (with_reducible first | exact HB.out | apply below_alloc | apply pw_below_drewN | apply below_drew1) | exact HB.out)⟩

end Go.Proofs.YthjlneaedajkmaaGreatDoor.PAtomTells
