/-
  The machine, part 2 of 6: its values' operations do as the program's do.
-/
import Derived.Test.YthjlneaedajkmaaGreatDoorAm1
import Derived.Laws.StructEq
namespace Go.AM

mutual
theorem VR.closed {ρ : Env} : ∀ {v : Value}, AM.closed v = true → VR ρ v v
  | .bool _, _ => rfl
  | .int _ _, _ => rfl
  | .string _, _ => rfl
  | .pointer none, _ => rfl
  | .map none, _ => rfl
  | .nilFunc, _ => rfl
  | .nilIface, _ => rfl
  | .slice none l c, h => by
    have hc : c < capBase := by simpa [AM.closed, Nat.blt_eq] using h
    exact ⟨c, by unfold CR; rw [if_pos hc], rfl⟩
  | .func (.func g) ⟨a⟩ ⟨b⟩, h => by
    simp only [AM.closed, Bool.and_eq_true] at h
    exact ⟨_, _, _, rfl, VRL.closed h.1, VRL.closed h.2, rfl⟩
  | .iface t v, h => ⟨v, VR.closed (v := v) h, rfl⟩
  | .agg ⟨a⟩, h => ⟨a, VRL.closed h, rfl⟩
  | .tuple ⟨a⟩, h => ⟨a, VRL.closed h, rfl⟩
  | .float _ _, h => by simp [AM.closed] at h
  | .complex _ _ _, h => by simp [AM.closed] at h
  | .pointer (some _), h => by simp [AM.closed] at h
  | .slice (some _) _ _, h => by simp [AM.closed] at h
  | .map (some _), h => by simp [AM.closed] at h
  | .chan _, h => by simp [AM.closed] at h
  | .func (.method _) _ _, h => by simp [AM.closed] at h
  | .func (.methodOf _ _) _ _, h => by simp [AM.closed] at h
  | .func (.via _ _ _ _) _ _, h => by simp [AM.closed] at h
  | .func (.yield _) _ _, h => by simp [AM.closed] at h
theorem VRL.closed {ρ : Env} : ∀ {l : List Value}, closeds l = true → VRL ρ l l
  | [], _ => rfl
  | x :: xs, h => by
    simp only [closeds, Bool.and_eq_true] at h
    exact ⟨x, xs, VR.closed h.1, VRL.closed h.2, rfl⟩
end

/-- The tables are the program's. -/
structure Tab.Ok (T : Tab) (P : Program) : Prop where
  fn : ∀ k f, T.fn k = some f → P.funcs[k]? = some f
  info : ∀ t i, T.info t = some i → P.info? t = some i
  zero : ∀ t i z, T.info t = some i → i.zero = some z → closed z = true
  zsize : ∀ t i z, T.info t = some i → i.zero = some z → z.cells.size = i.size
  und : ∀ t d, T.und t = some d → P.underlying t = some d
  plain : ∀ t, T.plain t = true → P.stoodInHeld t = false ∧ P.eqGuardType P.depth t = false
  nglob : T.nglob = P.globals.size
  depth : 0 < P.depth
  orders : P.follows .mixedOrders = true

section
variable {T : Tab} {P : Program} (ok : T.Ok P) {N : Nat} {ρ : Env} {s : AS} {w : World}

theorem run_und (hT : T.Ok P) {t : TypeId} {d : TypeDesc} (h : T.und t = some d) (w : World) : (underlying t).run P w = .ok d w := by
  simp [underlying, hT.und t d h]
theorem run_info (hT : T.Ok P) {t : TypeId} {i : TypeInfo} (h : T.info t = some i) (w : World) : (typeInfo t).run P w = .ok i w := by
  simp [typeInfo, hT.info t i h]
theorem run_sizeOf (hT : T.Ok P) {t n : Nat} (h : AM.sizeOf T t = some n) (w : World) : (Go.sizeOf t).run P w = .ok n w := by
  unfold AM.sizeOf at h
  obtain ⟨i, hi, rfl⟩ := Option.map_eq_some_iff.1 h
  simp [Go.sizeOf, run_info hT hi]
theorem run_isAgg (hT : T.Ok P) {t : Nat} {b : Bool} (h : AM.isAgg T t = some b) (w : World) : (Go.isAgg t).run P w = .ok b w := by
  unfold AM.isAgg at h
  cases hu : T.und t with
  | none => simp [hu] at h
  | some d => cases d <;> simp [hu] at h <;> subst h <;> simp [Go.isAgg, run_und hT hu]
theorem run_zero (hT : T.Ok P) {t : Nat} {z : Value} (h : zeroOf T t = some z) (w : World) : (zeroValue t).run P w = .ok z w ∧ closed z = true := by
  unfold zeroOf at h
  obtain ⟨i, hi, hz⟩ := Option.bind_eq_some_iff.1 h
  exact ⟨by simp [zeroValue, run_info hT hi, hz], hT.zero t i z hi hz⟩

/-- A list cut out of an array. -/
theorem extract_mk (l : List Value) (a n : Nat) : (⟨l⟩ : Array Value).extract a (a + n) = ⟨(l.drop a).take n⟩ := by
  apply Array.ext'
  simp [List.drop_take]

theorem run_part (hT : T.Ok P) {t off : Nat} {cs cs' : List Value} {v : Value} (hv : AM.part T t cs off = some v) (hc : VRL ρ cs cs') (w : World) :
    ∃ v', (Go.part t ⟨cs'⟩ off).run P w = .ok v' w ∧ VR ρ v v' := by
  unfold AM.part at hv
  cases ha : AM.isAgg T t with
  | none => simp [ha] at hv
  | some b =>
    cases b with
    | true =>
      simp only [ha] at hv
      obtain ⟨n, hn, rfl⟩ := Option.map_eq_some_iff.1 hv
      refine ⟨.agg ⟨(cs'.drop off).take n⟩, ?_, _, (hc.drop off).take n, rfl⟩
      simp [Go.part, run_isAgg hT ha, run_sizeOf hT hn, extract_mk]
    | false =>
      simp only [ha] at hv
      obtain ⟨v', h1, h2⟩ := hc.get? hv
      refine ⟨v', ?_, h2⟩
      simp [Go.part, run_isAgg hT ha, h1]
end

end Go.AM

namespace Go.AM

section
variable {T : Tab} {P : Program} {N : Nat} {ρ : Env} {s : AS} {w : World}

/-- A value's shape is its own. -/
theorem VR.iface {t : TypeId} {x : Value} {v : Value} (h : VR ρ (.iface t x) v) : ∃ x', VR ρ x x' ∧ v = .iface t x' := h

set_option maxHeartbeats 2000000 in
theorem run_aeq (hT : T.Ok P) (hr : HR T ρ N s w) : ∀ (d : Nat) (t : TypeId) (x y : Value) (b : Bool), AM.aeq T s d t x y = some b → ∀ (x' y' : Value), VR ρ x x' → VR ρ y y' → ∀ D, d ≤ D →
    (Op.equalIn D t x' y').run P w = .ok b w := by
  intro d
  induction d with
  | zero => intro t x y b h; simp [AM.aeq] at h
  | succ d ih =>
    intro t x y b h x' y' hx hy D hD
    obtain ⟨D, rfl⟩ : ∃ D', D = D' + 1 := ⟨D - 1, by omega⟩
    unfold AM.aeq at h
    cases hu : T.und t with
    | none => simp [hu] at h
    | some ty =>
      have hut := hT.und t ty hu
      simp only [hu] at h
      split at h
      · cases h; cases hx; cases hy; rename_i e; cases e; simp [Op.equalIn, run_underlying hut]
      · rename_i k a k' b' e
        cases e; cases hx; cases hy
        split at h
        · rename_i hk; cases h; subst hk; simp [Op.equalIn, run_underlying hut]
        · cases h
      · cases h; cases hx; cases hy; rename_i e; cases e; simp [Op.equalIn, run_underlying hut]
      · rename_i b' e
        cases e; cases h; cases hx
        cases b' with
        | none => cases hy; simp [Op.equalIn, run_underlying hut]
        | some b' => obtain ⟨c, _, rfl⟩ := hy; simp [Op.equalIn, run_underlying hut]
      · rename_i a e
        cases e; cases h; cases hy
        obtain ⟨c, _, rfl⟩ := hx; simp [Op.equalIn, run_underlying hut]
      · rename_i e a b' he
        cases he
        obtain ⟨ca, ha, rfl⟩ := hx; obtain ⟨cb, hb, rfl⟩ := hy
        split at h
        · rename_i n hn
          split at h
          · rename_i hab
            obtain ⟨h1, h2, h3⟩ := hab
            cases h
            rw [h1] at ha; rw [ha] at hb; cases hb
            have hz := run_sizeOf hT hn w
            have hb : ((⟨ca, a.off, none⟩ : Addr) == ⟨ca, b'.off, none⟩) = (a.off == b'.off) := by rw [Bool.eq_iff_iff]; simp
            simp only [h2, h3, Op.equalIn, Sem.run_bind, run_underlying hut, Result.andThen_ok, hz, Sem.run_ite]
            simp [sameAddr, hb]
          · cases h
        · cases h
      · rename_i e; cases e; cases h; cases hx; cases hy; simp [Op.equalIn, run_underlying hut]
      · rename_i e; cases e; cases h; cases hx; obtain ⟨_, _, rfl⟩ := hy; simp [Op.equalIn, run_underlying hut]
      · rename_i e; cases e; cases h; cases hy; obtain ⟨_, _, rfl⟩ := hx; simp [Op.equalIn, run_underlying hut]
      · rename_i tx vx ty' vy e
        cases e
        obtain ⟨ux, hux, rfl⟩ := hx; obtain ⟨uy, huy, rfl⟩ := hy
        split at h
        · rename_i htt
          subst htt
          split at h
          · rename_i i hi
            split at h
            · rename_i hc
              have := ih _ _ _ _ h ux uy hux huy D (by omega)
              simp [Op.equalIn, run_underlying hut, run_info hT hi, hc, this]
            · cases h
          · cases h
        · rename_i htt
          cases h
          simp [Op.equalIn, run_underlying hut, htt]
      · rename_i fs xs ys e
        cases e
        split at h
        · rename_i hpl
          obtain ⟨xs⟩ := xs; obtain ⟨ys⟩ := ys
          obtain ⟨xs', hxs, rfl⟩ := hx; obtain ⟨ys', hys, rfl⟩ := hy
          have hfo : P.fieldsOf t = fs := by unfold Program.fieldsOf; rw [hut]
          rw [run_equalIn_struct w D t _ _ (by rw [hfo]; exact hut) (hT.plain t hpl).1, hfo]
          generalize fs.toList = l at h
          clear hfo hut hu
          induction l with
          | nil => simp [AM.fieldsEq] at h; subst h; simp [Op.eqFields]
          | cons f l ihl =>
            simp only [AM.fieldsEq] at h
            simp only [Op.eqFields]
            by_cases hn : f.name = "_"
            · simp only [hn, if_true] at h
              simp only [hn, ne_eq, not_true_eq_false, if_false]
              exact ihl h
            · simp only [hn, if_false] at h
              simp only [ne_eq, hn, not_false_eq_true, if_true]
              cases h1 : AM.part T f.type xs f.offset with
              | none => simp [h1] at h
              | some u =>
                cases h2 : AM.part T f.type ys f.offset with
                | none => simp [h1, h2] at h
                | some v =>
                  simp only [h1, h2] at h
                  obtain ⟨u', hu1, hu2⟩ := run_part hT h1 hxs w
                  obtain ⟨v', hv1, hv2⟩ := run_part hT h2 hys w
                  cases h3 : AM.aeq T s d f.type u v with
                  | none => simp [h3] at h
                  | some r =>
                    have := ih _ _ _ _ h3 u' v' hu2 hv2 D (by omega)
                    cases r with
                    | true => simp only [h3] at h; simp [hu1, hv1, this, ihl h]
                    | false => simp only [h3] at h; cases h; simp [hu1, hv1, this]
        · cases h
      · rename_i b' _ _ e
        cases e; cases h; obtain ⟨c', _, rfl⟩ := hx
        cases b' with
        | none => obtain ⟨c'', _, rfl⟩ := hy; simp [Op.equalIn, run_underlying hut]
        | some b' => obtain ⟨c, c'', _, _, rfl⟩ := hy; simp [Op.equalIn, run_underlying hut]
      · rename_i e
        cases e; cases h; obtain ⟨c', c'', _, _, rfl⟩ := hx
        obtain ⟨c'', _, rfl⟩ := hy; simp [Op.equalIn, run_underlying hut]
      · rename_i b' e
        cases e; cases h; cases hx
        cases b' with
        | none => cases hy; simp [Op.equalIn, run_underlying hut]
        | some b' => obtain ⟨c, _, rfl⟩ := hy; simp [Op.equalIn, run_underlying hut]
      · rename_i e
        cases e; cases h; cases hy; obtain ⟨c', _, rfl⟩ := hx; simp [Op.equalIn, run_underlying hut]
      · rename_i e; cases e; cases h; cases hx; cases hy; simp [Op.equalIn, run_underlying hut]
      · rename_i f1 f2 f3 e
        cases e; cases h; cases hx; obtain ⟨f2⟩ := f2; obtain ⟨f3⟩ := f3; obtain ⟨_, _, _, _, _, _, rfl⟩ := hy; simp [Op.equalIn, run_underlying hut]
      · rename_i f1 f2 f3 e
        cases e; cases h; cases hy; obtain ⟨f2⟩ := f2; obtain ⟨f3⟩ := f3; obtain ⟨_, _, _, _, _, _, rfl⟩ := hx; simp [Op.equalIn, run_underlying hut]
      · cases h
/-! ## The other operations that look at values alone -/

theorem run_intOp (op : BinOp) (k : IntKind) (a b : Int) (v : Value) (hop : op ≠ .shl ∧ op ≠ .shr) (h : AM.intOp op k a b = some v) (t : TypeId) (w : World) : (binOp op t (.int k a) (.int k b)).run P w = .ok v w := by
  cases op <;> simp only [AM.intOp] at h <;> first
    | (cases h; done)
    | (split at h; · cases h
       · cases h; rename_i hb; simp [binOp, Op.intDiv, hb])
    | (cases h; simp [binOp, Op.intArith, Op.intBits, Op.intCmp])

theorem run_strOp (op : BinOp) (a b : ByteArray) (v : Value) (h : AM.strOp op a b = some v) (t : TypeId) (w : World) : (binOp op t (.string a) (.string b)).run P w = .ok v w := by
  cases op <;> simp only [AM.strOp] at h <;> first
    | (cases h; done)
    | (split at h; · cases h
       · cases h; rename_i hb; simp only [binOp, Op.stringOp, if_neg hb]; rfl)
    | (cases h; simp only [binOp, Op.stringOp]; rfl)

end

end Go.AM

namespace Go.AM

section
variable {T : Tab} {P : Program} {N : Nat} {ρ : Env} {s : AS} {w : World}

/-- What stands for a value that the walk knows: its own kind. -/
theorem VR.kind {x v : Value} (h : VR ρ x v) : (∀ k n, v = .int k n → x = .int k n) ∧ (∀ b, v = .string b → x = .string b) ∧ (∀ k b, v ≠ .float k b) ∧ (∀ k a b, v ≠ .complex k a b) ∧ (v = .nilIface → x = .nilIface) ∧
    (∀ cs, v = .agg cs → ∃ xs, x = .agg xs) ∧ (∀ b, v = .bool b → x = .bool b) := by
  cases x with
  | bool b => cases h; simp
  | int k n => cases h; simp
  | float _ _ => exact h.elim
  | complex _ _ _ => exact h.elim
  | string b => cases h; simp
  | pointer a => cases a with
    | none => cases h; simp
    | some a => obtain ⟨_, _, rfl⟩ := h; simp
  | slice a l c => cases a with
    | none => obtain ⟨_, _, rfl⟩ := h; simp
    | some a => obtain ⟨_, _, _, _, rfl⟩ := h; simp
  | map a => cases a with
    | none => cases h; simp
    | some a => obtain ⟨_, _, rfl⟩ := h; simp
  | chan _ => exact h.elim
  | func f a b => obtain ⟨a⟩ := a; obtain ⟨b⟩ := b; obtain ⟨_, _, _, _, _, _, rfl⟩ := h; simp
  | nilFunc => cases h; simp
  | iface t x => obtain ⟨_, _, rfl⟩ := h; simp
  | nilIface => cases h; simp
  | agg cs => obtain ⟨cs⟩ := cs; obtain ⟨_, _, rfl⟩ := h; simp
  | tuple cs => obtain ⟨cs⟩ := cs; obtain ⟨_, _, rfl⟩ := h; simp

theorem run_eqFree (hT : T.Ok P) {op : BinOp} {t : TypeId} {ox oy : Operand} {x y x' y' : Value} (h : eqFree T t ox oy x y = true) (hx : VR ρ x x') (hy : VR ρ y y') : (eqGuard op t ox oy x' y').run P w = .ok () w := by
  cases op <;> first
    | (simp [eqGuard]; done)
    | (simp only [eqGuard, Bool.not_true, Bool.false_eq_true, if_false, pure_bind]
       split
       · have e1 := hx.kind.2.2.2.2.1 rfl
         have e2 := hy.kind.2.2.2.2.1 rfl
         subst e1; subst e2
         have h' : (Region.isConst ox || Region.isConst oy) = true := h
         clear h hx hy
         cases ox <;> cases oy <;> first | (simp [Region.isConst] at h'; done) | rfl
       · obtain ⟨xs, rfl⟩ := hx.kind.2.2.2.2.2.1 _ rfl
         obtain ⟨ys, rfl⟩ := hy.kind.2.2.2.2.2.1 _ rfl
         have h' : T.plain t = true := h
         simp [(hT.plain t h').2]
       · rfl)

theorem run_binEq {t : TypeId} {x y x' y' : Value} {b : Bool} (hxy : (Op.equal t x' y').run P w = .ok b w) (hx : VR ρ x x') (hy : VR ρ y y')
    (hi : ∀ k a k' c, x = .int k a → y = .int k' c → False) (hs : ∀ a c, x = .string a → y = .string c → False) :
    (binOp .eql t x' y').run P w = .ok (.bool b) w ∧ (binOp .neq t x' y').run P w = .ok (.bool (!b)) w := by
  constructor
  · unfold binOp
    split <;> first
      | (rename_i e; cases e; done)
      | (exact (hi _ _ _ _ (hx.kind.1 _ _ rfl) (hy.kind.1 _ _ rfl)).elim)
      | (exact (hx.kind.2.2.1 _ _ rfl).elim)
      | (exact (hx.kind.2.2.2.1 _ _ _ rfl).elim)
      | (exact (hs _ _ (hx.kind.2.1 _ rfl) (hy.kind.2.1 _ rfl)).elim)
      | (simp [hxy]; done)
      | (simp_all; done)
  · unfold binOp
    split <;> first
      | (rename_i e; cases e; done)
      | (exact (hi _ _ _ _ (hx.kind.1 _ _ rfl) (hy.kind.1 _ _ rfl)).elim)
      | (exact (hx.kind.2.2.1 _ _ rfl).elim)
      | (exact (hx.kind.2.2.2.1 _ _ _ rfl).elim)
      | (exact (hs _ _ (hx.kind.2.1 _ rfl) (hy.kind.2.1 _ rfl)).elim)
      | (simp [hxy]; done)
      | (simp_all; done)

theorem run_abin (hT : T.Ok P) (hr : HR T ρ N s w) {op : BinOp} {t : TypeId} {ox oy : Operand} {x y x' y' v : Value} (h : abin T s op t ox oy x y = some v) (hx : VR ρ x x') (hy : VR ρ y y') :
    ∃ v', ((do eqGuard op t ox oy x' y'; binOp op t x' y') : Sem Value).run P w = .ok v' w ∧ VR ρ v v' := by
  unfold abin at h
  split at h
  · cases hx; cases hy
    split at h
    · cases h
    · cases h; rename_i hb
      exact ⟨_, by simp [eqGuard, binOp, Op.shift, hb], rfl⟩
  · cases hx; cases hy
    split at h
    · cases h
    · cases h; rename_i hb
      exact ⟨_, by simp [eqGuard, binOp, Op.shift, hb], rfl⟩
  · rename_i k a k' b hn1 hn2
    cases hx; cases hy
    split at h
    · rename_i hk
      subst hk
      have hv := run_intOp (P := P) op k a b v ⟨hn1, hn2⟩ h t w
      refine ⟨v, ?_, ?_⟩
      · have : (eqGuard op t ox oy (.int k a) (.int k b)).run P w = .ok () w := by unfold eqGuard; cases op <;> simp
        simp [this, hv]
      · cases op <;> simp only [AM.intOp] at h <;> first
          | (cases h; done)
          | (split at h <;> cases h; exact rfl)
          | (cases h; exact rfl)
    · cases h
  · rename_i a b
    cases hx; cases hy
    have hv := run_strOp (P := P) op a b v h t w
    refine ⟨v, ?_, ?_⟩
    · have : (eqGuard op t ox oy (.string a) (.string b)).run P w = .ok () w := by unfold eqGuard; cases op <;> simp
      simp [this, hv]
    · cases op <;> simp only [AM.strOp] at h <;> first
        | (cases h; done)
        | (split at h <;> cases h; exact rfl)
        | (cases h; exact rfl)
  · rename_i hn1 hn2
    rw [cond_eq_ite] at h
    split at h
    · rename_i hf
      obtain ⟨b, hb, rfl⟩ := Option.map_eq_some_iff.1 h
      have he := run_aeq hT hr 60 t x y b hb x' y' hx hy 10000 (by decide)
      refine ⟨.bool b, ?_, rfl⟩
      have := (run_binEq (P := P) (w := w) (t := t) (b := b) he hx hy (fun k a k' c e1 e2 => hn1 k a k' c e1 e2) (fun a c e1 e2 => hn2 a c e1 e2)).1
      simp [run_eqFree (w := w) hT hf hx hy, this]
    · cases h
  · rename_i hn1 hn2
    rw [cond_eq_ite] at h
    split at h
    · rename_i hf
      obtain ⟨b, hb, rfl⟩ := Option.map_eq_some_iff.1 h
      have he := run_aeq hT hr 60 t x y b hb x' y' hx hy 10000 (by decide)
      refine ⟨.bool (!b), ?_, rfl⟩
      have := (run_binEq (P := P) (w := w) (t := t) (b := b) he hx hy (fun k a k' c e1 e2 => hn1 k a k' c e1 e2) (fun a c e1 e2 => hn2 a c e1 e2)).2
      simp [run_eqFree (w := w) hT hf hx hy, this]
    · cases h
  · cases h
end

end Go.AM

namespace Go.AM

section
variable {T : Tab} {P : Program} {N : Nat} {ρ : Env} {s : AS} {w : World}

theorem run_aun {op : UnOp} {x x' v : Value} (h : aun op x = some v) (hx : VR ρ x x') : (Op.unary op x').run P w = .ok v w ∧ VR ρ v v := by
  unfold aun at h
  split at h
  · cases hx; cases h; exact ⟨by simp [Op.unary, Op.intArith], rfl⟩
  · cases hx; simp only [AM.intOp] at h; cases h; exact ⟨by simp [Op.unary, Op.intBits], rfl⟩
  · cases hx; cases h; exact ⟨by simp [Op.unary], rfl⟩
  · cases h

theorem run_bound {v v' : Value} {y n : Nat} (h : bound v y = some n) (hv : VR ρ v v') (code : BoundsCode) : (Instr.sliceBound v' y code).run P w = .ok n w ∧ n ≤ y := by
  unfold bound at h
  split at h
  · cases hv
    split at h
    · rename_i hc; cases h; exact ⟨by simp [Instr.sliceBound, asIntOf, hc], by omega⟩
    · cases h
  · cases h

def VRO (ρ : Env) : Option Value → Option Value → Prop
  | none, v => v = none
  | some x, v => ∃ y, VR ρ x y ∧ v = some y

theorem run_sliceBounds {lo hi mx lo' hi' mx' : Option Value} {isSlice : Bool} {len cap l h m : Nat} (hlo : VRO ρ lo lo') (hhi : VRO ρ hi hi') (hmx : VRO ρ mx mx')
    (em : optBound mx cap cap = some m) (eh : (if mx.isSome ∧ hi.isNone then none else if mx.isSome then optBound hi m len else optBound hi cap len) = some h) (el : optBound lo h 0 = some l) :
    (Instr.sliceBounds isSlice len cap lo' hi' mx').run P w = .ok (l, h, m) w := by
  cases mx with
  | none =>
    cases hmx
    simp only [optBound, Option.some.injEq] at em
    subst em
    cases hi with
    | none =>
      cases hhi
      simp [optBound] at eh; subst eh
      cases lo with
      | none => cases hlo; simp [optBound] at el; subst el; simp [Instr.sliceBounds]
      | some lo => obtain ⟨lo1, h1, rfl⟩ := hlo; simp only [optBound] at el; simp [Instr.sliceBounds, (run_bound (P := P) (w := w) el h1 _).1]
    | some hi =>
      obtain ⟨hi1, h1, rfl⟩ := hhi
      simp only [optBound, Option.isSome_none, Option.isNone_some, Bool.false_eq_true, false_and, if_false] at eh
      cases lo with
      | none => cases hlo; simp [optBound] at el; subst el; simp [Instr.sliceBounds, (run_bound (P := P) (w := w) eh h1 _).1]
      | some lo => obtain ⟨lo1, h2, rfl⟩ := hlo; simp only [optBound] at el; simp [Instr.sliceBounds, (run_bound (P := P) (w := w) eh h1 _).1, (run_bound (P := P) (w := w) el h2 _).1]
  | some mx =>
    obtain ⟨mx1, h0, rfl⟩ := hmx
    simp only [optBound] at em
    cases hi with
    | none => simp at eh
    | some hi =>
      obtain ⟨hi1, h1, rfl⟩ := hhi
      simp only [optBound, Option.isSome_some, Option.isNone_some, Bool.false_eq_true, and_false, if_false, if_true] at eh
      cases lo with
      | none => cases hlo; simp [optBound] at el; subst el; simp [Instr.sliceBounds, (run_bound (P := P) (w := w) em h0 _).1, (run_bound (P := P) (w := w) eh h1 _).1]
      | some lo => obtain ⟨lo1, h2, rfl⟩ := hlo; simp only [optBound] at el; simp [Instr.sliceBounds, (run_bound (P := P) (w := w) em h0 _).1, (run_bound (P := P) (w := w) eh h1 _).1, (run_bound (P := P) (w := w) el h2 _).1]

theorem addTo_eq (a : Addr) (n b : Nat) (h : a.spot = none ∨ n ≠ 0 ∨ True) : (⟨b, a.off, a.spot⟩ : Addr).add n = ⟨b, (addTo a n).off, (addTo a n).spot⟩ ∧ (addTo a n).block = a.block := by
  unfold addTo Addr.add
  split <;> simp

/-- A slice's place, moved on. -/
theorem VR.slice_move {a : Option Addr} {l c : Nat} {x : Value} (h : VR ρ (.slice a l c) x) : ∃ a' c', x = .slice a' l c' ∧ CR ρ c c' ∧ ∀ (m k l2 c2 c2' : Nat) (same : Prop) [Decidable same], CR ρ c2 c2' →
    VR ρ (.slice (if same then a else a.map (addTo · k)) l2 c2) (.slice (if same then a' else a'.map (·.add k)) l2 c2') := by
  cases a with
  | none =>
    obtain ⟨c', hc, rfl⟩ := h
    exact ⟨none, c', rfl, hc, fun m k l2 c2 c2' same _ h2 => by split <;> exact ⟨c2', h2, rfl⟩⟩
  | some a =>
    obtain ⟨b, c', hb, hc, rfl⟩ := h
    refine ⟨some ⟨b, a.off, a.spot⟩, c', rfl, hc, fun m k l2 c2 c2' same _ h2 => ?_⟩
    split
    · exact ⟨b, c2', hb, h2, rfl⟩
    · obtain ⟨e1, e2⟩ := addTo_eq a k b (.inr (.inr trivial))
      exact ⟨b, c2', by rw [e2]; exact hb, h2, by simp [e1]⟩

theorem CR.exact {c : Nat} (h : c < capBase) : CR ρ c c := by unfold CR; rw [if_pos h]
theorem CR.exact_eq {c c' : Nat} (h : c < capBase) (hc : CR ρ c c') : c' = c := by unfold CR at hc; rwa [if_pos h] at hc
theorem CR.low {c c' : Nat} (h : ¬ c < capBase) (hc : CR ρ c c') : capLow c ≤ c' := by unfold CR at hc; rw [if_neg h] at hc; exact hc.choose_spec.2.2

theorem capId_mk {id off lb : Nat} (h1 : off < capBase) (h2 : lb < capBase) : capId (mkCap id off lb) = id ∧ capOff (mkCap id off lb) = off ∧ capLow (mkCap id off lb) = lb ∧ ¬ mkCap id off lb < capBase := by
  have e1 : mkCap id off lb / capBase = capBase * (id + 1) + off := by unfold mkCap; rw [Nat.mul_add_div (by decide), Nat.div_eq_of_lt h2, Nat.add_zero]
  have e2 : mkCap id off lb % capBase = lb := by unfold mkCap; rw [Nat.mul_add_mod, Nat.mod_eq_of_lt h2]
  refine ⟨?_, ?_, e2, ?_⟩
  · unfold capId; rw [e1, Nat.mul_add_div (by decide), Nat.div_eq_of_lt h1]; omega
  · unfold capOff; rw [e1, Nat.mul_add_mod, Nat.mod_eq_of_lt h1]
  · intro hlt
    have : 1 ≤ mkCap id off lb / capBase := by rw [e1]; have : capBase * 1 ≤ capBase * (id + 1) := Nat.mul_le_mul_left _ (by omega); omega
    rw [Nat.div_eq_of_lt hlt] at this; omega

theorem run_aslice (hT : T.Ok P) {t : TypeId} {x x' v : Value} {lo hi mx lo' hi' mx' : Option Value} (h : aslice T t x lo hi mx = some v) (hx : VR ρ x x') (hlo : VRO ρ lo lo') (hhi : VRO ρ hi hi') (hmx : VRO ρ mx mx') :
    ∃ v', (Instr.sliceAt t x' lo' hi' mx').run P w = .ok v' w ∧ VR ρ v v' := by
  unfold aslice at h
  split at h
  · rename_i b hu
    cases hx
    split at h
    · cases h
    · rename_i hm
      cases mx with
      | some m => simp at hm
      | none =>
        cases hmx
        obtain ⟨hh, h1, h2⟩ := Option.bind_eq_some_iff.1 h
        obtain ⟨l, h3, rfl⟩ := Option.map_eq_some_iff.1 h2
        have := run_sliceBounds (P := P) (w := w) (isSlice := false) (len := b.size) (cap := b.size) (m := b.size) hlo hhi (show VRO ρ none none from rfl) rfl (by simpa using h1) h3
        exact ⟨_, by simp [Instr.sliceAt, Instr.slice, run_und hT hu, this] <;> rfl, rfl⟩
  · rename_i e a len cap hu
    obtain ⟨a', cap', rfl, hc, mv⟩ := hx.slice_move
    obtain ⟨size, hs, h⟩ := Option.bind_eq_some_iff.1 h
    split at h
    · rename_i hlt
      obtain rfl := hc.exact_eq hlt
      obtain ⟨m, hm, h⟩ := Option.bind_eq_some_iff.1 h
      obtain ⟨hh, h1, h⟩ := Option.bind_eq_some_iff.1 h
      obtain ⟨l, h2, rfl⟩ := Option.map_eq_some_iff.1 h
      have hb := run_sliceBounds (P := P) (w := w) (isSlice := true) hlo hhi hmx hm h1 h2
      have hml : m ≤ cap' := by
        cases mx with
        | none => simp [optBound] at hm; omega
        | some mx => obtain ⟨mx1, h0, rfl⟩ := hmx; exact (run_bound (P := P) (w := w) (by simpa [optBound] using hm) h0 .index).2
      refine ⟨_, by simp [Instr.sliceAt, Instr.slice, run_und hT hu, hb, run_sizeOf hT hs] <;> rfl, ?_⟩
      have := mv m (l * size) (hh - l) (m - l) (m - l) (m = l) (CR.exact (by omega))
      exact this
    · rename_i hlt
      have hlow := hc.low hlt
      cases mx with
      | some mx =>
        obtain ⟨mx1, h0, rfl⟩ := hmx
        obtain ⟨m, hm, h⟩ := Option.bind_eq_some_iff.1 h
        obtain ⟨hh, h1, h⟩ := Option.bind_eq_some_iff.1 h
        obtain ⟨l, h2, rfl⟩ := Option.map_eq_some_iff.1 h
        have hmle := (run_bound (P := P) (w := w) hm h0 .index).2
        have hm' : optBound (some mx) cap' cap' = some m := by
          simp only [optBound]
          unfold bound at hm ⊢
          split at hm
          · split at hm
            · rename_i hq; cases hm; rw [if_pos (by omega)]
            · cases hm
          · cases hm
        have hb := run_sliceBounds (P := P) (w := w) (isSlice := true) (len := len) hlo hhi (show VRO ρ (some mx) (some mx1) from ⟨mx1, h0, rfl⟩) hm' (by simpa using h1) h2
        refine ⟨_, by simp [Instr.sliceAt, Instr.slice, run_und hT hu, hb, run_sizeOf hT hs] <;> rfl, ?_⟩
        have hcl : capLow cap < capBase := Nat.mod_lt _ (by decide)
        have := mv m (l * size) (hh - l) (m - l) (m - l) (m = l) (CR.exact (by omega))
        exact this
      | none =>
        cases hmx
        obtain ⟨hh, h1, h⟩ := Option.bind_eq_some_iff.1 h
        obtain ⟨l, h2, h⟩ := Option.bind_eq_some_iff.1 h
        have hh' : optBound hi cap' len = some hh := by
          cases hi with
          | none => simpa [optBound] using h1
          | some hi =>
            simp only [optBound] at h1 ⊢
            unfold bound at h1 ⊢
            split at h1
            · split at h1
              · rename_i hq; cases h1; rw [if_pos (by omega)]
              · cases h1
            · cases h1
        have hb := run_sliceBounds (P := P) (w := w) (isSlice := true) (len := len) (cap := cap') (m := cap') hlo hhi (show VRO ρ none none from rfl) rfl (by simpa using hh') h2
        split at h
        · rename_i hl
          cases h
          subst hl
          refine ⟨.slice a' hh cap', by simp [Instr.sliceAt, Instr.slice, run_und hT hu, hb, run_sizeOf hT hs, Addr.add], ?_⟩
          simpa using mv 0 0 hh cap cap' True hc
        · split at h
          · rename_i hl0 hll
            cases h
            refine ⟨_, by simp [Instr.sliceAt, Instr.slice, run_und hT hu, hb, run_sizeOf hT hs, show ¬ cap' = l by omega] <;> rfl, ?_⟩
            have hco : capOff cap < capBase := Nat.mod_lt _ (by decide)
            have hcl : capLow cap < capBase := Nat.mod_lt _ (by decide)
            have hk : capOff cap + l < capBase := hll.2
            have hll := hll.1
            obtain ⟨k1, k2, k3, k4⟩ := capId_mk (id := capId cap) hk (show capLow cap - l < capBase by omega)
            have := mv 0 (l * size) (hh - l) (mkCap (capId cap) (capOff cap + l) (capLow cap - l)) (cap' - l) False (by
              unfold CR at hc ⊢
              rw [if_neg hlt] at hc; rw [if_neg k4, k1, k2, k3]
              obtain ⟨k, a1, a2, a3⟩ := hc
              exact ⟨k, a1, by omega, by omega⟩)
            simpa using this
          · cases h
  · rename_i n e a hu
    obtain ⟨b, hb0, rfl⟩ := hx
    split at h
    · cases h
    rename_i hcap
    obtain ⟨size, hs, h⟩ := Option.bind_eq_some_iff.1 h
    obtain ⟨m, hm, h⟩ := Option.bind_eq_some_iff.1 h
    obtain ⟨hh, h1, h⟩ := Option.bind_eq_some_iff.1 h
    obtain ⟨l, h2, rfl⟩ := Option.map_eq_some_iff.1 h
    have hml : m ≤ n := by
      cases mx with
      | none => simp [optBound] at hm; omega
      | some mx => obtain ⟨mx1, h0, rfl⟩ := hmx; exact (run_bound (P := P) (w := w) (by simpa [optBound] using hm) h0 .index).2
    split at h1
    · cases h1
    · rename_i hmi
      have hb := run_sliceBounds (P := P) (w := w) (isSlice := false) (len := n) (cap := n) (h := hh) hlo hhi hmx hm (by
        rw [if_neg hmi]
        cases mx with
        | none => simp only [optBound, Option.some.injEq] at hm; subst hm; simpa using h1
        | some mx => simpa using h1) h2
      have hb' : (⟨b, a.off, a.spot⟩ : Addr).add (l * size) = ⟨b, (addTo a (l * size)).off, (addTo a (l * size)).spot⟩ := (addTo_eq a (l * size) b (.inr (.inr trivial))).1
      refine ⟨.slice (some (if m = l then ⟨b, a.off, a.spot⟩ else (⟨b, a.off, a.spot⟩ : Addr).add (l * size))) (hh - l) (m - l), by simp [Instr.sliceAt, Instr.sureAddr, run_und hT hu, hb, run_sizeOf hT hs], ?_⟩
      split
      · exact ⟨b, m - l, hb0, CR.exact (by omega), rfl⟩
      · exact ⟨b, m - l, by rw [(addTo_eq a (l * size) b (.inr (.inr trivial))).2]; exact hb0, CR.exact (by omega), by rw [hb']⟩
  · cases h
end

end Go.AM

namespace Go.AM

section
variable {T : Tab} {P : Program} {N : Nat} {ρ : Env} {s : AS} {w : World}

theorem byteArray_get? (b : ByteArray) (i : Nat) (c : UInt8) (h : b.data.toList[i]? = some c) : b[i]? = some c := by
  obtain ⟨⟨l⟩⟩ := b
  have hi : i < l.length := by
    rcases Nat.lt_or_ge i l.length with h' | h'
    · exact h'
    · simp [List.getElem?_eq_none h'] at h
  rw [getElem?_pos (⟨⟨l⟩⟩ : ByteArray) i (by simpa [ByteArray.size] using hi)]
  simp [List.getElem?_eq_getElem hi] at h
  rw [← h]; rfl

theorem run_aindex (hT : T.Ok P) {t : TypeId} {x ix x' ix' v : Value} (h : aindex T t x ix = some v) (hx : VR ρ x x') (hi : VR ρ ix ix') : ∃ v', (Instr.index t x' ix').run P w = .ok v' w ∧ VR ρ v v' := by
  unfold aindex at h
  split at h
  · rename_i k i
    cases hi
    split at h
    · rename_i len e cs hu
      obtain ⟨cs⟩ := cs
      obtain ⟨cs', hc, rfl⟩ := hx
      split at h
      · rename_i hb
        obtain ⟨n, hn, hp⟩ := Option.bind_eq_some_iff.1 h
        obtain ⟨v', h1, h2⟩ := run_part (w := w) hT hp hc
        exact ⟨v', by simp [Instr.index, asIntOf, run_und hT hu, hb, run_sizeOf hT hn, h1], h2⟩
      · cases h
    · rename_i b hu
      cases hx
      split at h
      · rename_i hb
        obtain ⟨c, hc, rfl⟩ := Option.map_eq_some_iff.1 h
        have hg := byteArray_get? b i.toNat c hc
        exact ⟨_, by simp [Instr.index, asIntOf, run_und hT hu, hb, hg] <;> rfl, rfl⟩
      · cases h
    · cases h
  · cases h

theorem run_aindexAddr (hT : T.Ok P) {t : TypeId} {x ix x' ix' v : Value} (h : aindexAddr T t x ix = some v) (hx : VR ρ x x') (hi : VR ρ ix ix') : ∃ v', (Instr.indexAt t x' ix').run P w = .ok v' w ∧ VR ρ v v' := by
  unfold aindexAddr at h
  split at h
  · rename_i k i
    cases hi
    split at h
    · rename_i len e a hu
      obtain ⟨b, hb, rfl⟩ := hx
      obtain ⟨n, hn, hp⟩ := Option.bind_eq_some_iff.1 h
      split at hp
      · rename_i hbd
        cases hp
        obtain ⟨e1, e2⟩ := addTo_eq a (i.toNat * n) b (.inr (.inr trivial))
        exact ⟨_, by simp [Instr.indexAt, Instr.sureAddr, asIntOf, run_und hT hu, hbd, run_sizeOf hT hn] <;> rfl, b, by rw [e2]; exact hb, by rw [e1]⟩
      · cases hp
    · rename_i e a len c hu
      obtain ⟨b, c', hb, hc, rfl⟩ := hx
      obtain ⟨n, hn, hp⟩ := Option.bind_eq_some_iff.1 h
      split at hp
      · rename_i hbd
        cases hp
        obtain ⟨e1, e2⟩ := addTo_eq a (i.toNat * n) b (.inr (.inr trivial))
        exact ⟨_, by simp [Instr.indexAt, asIntOf, run_und hT hu, hbd, run_sizeOf hT hn] <;> rfl, b, by rw [e2]; exact hb, by rw [e1]⟩
      · cases hp
    · cases h
  · cases h

theorem run_afieldAddr (hT : T.Ok P) {t : TypeId} {x x' v : Value} {f : Nat} (h : afieldAddr T t x f = some v) (hx : VR ρ x x') : ∃ v', (Instr.fieldAt t x' f).run P w = .ok v' w ∧ VR ρ v v' := by
  unfold afieldAddr at h
  split at h
  · rename_i fs a hu
    obtain ⟨b, hb, rfl⟩ := hx
    split at h
    · rename_i fd hf
      split at h
      · rename_i n hn
        cases h
        obtain ⟨e1, e2⟩ := addTo_eq a fd.offset b (.inr (.inr trivial))
        exact ⟨_, by simp [Instr.fieldAt, Instr.sureAddr, run_und hT hu, hf, fieldPlace, run_sizeOf hT hn] <;> rfl, b, by rw [e2]; exact hb, by rw [e1]⟩
      · cases h
    · cases h
  · cases h

theorem run_afield (hT : T.Ok P) {t : TypeId} {x x' v : Value} {f : Nat} (h : afield T t x f = some v) (hx : VR ρ x x') : ∃ v', (Instr.field t x' f).run P w = .ok v' w ∧ VR ρ v v' := by
  unfold afield at h
  split at h
  · rename_i fs cs hu
    obtain ⟨cs⟩ := cs
    obtain ⟨cs', hc, rfl⟩ := hx
    split at h
    · rename_i fd hf
      obtain ⟨v', h1, h2⟩ := run_part (w := w) hT h hc
      exact ⟨v', by simp [Instr.field, run_und hT hu, hf, asAgg, h1], h2⟩
    · cases h
  · cases h

/-! ## Parts put together -/
theorem VRL.foldSet (off : Nat) : ∀ (vs vs' : List Value) (k : Nat) (cs cs' : Array Value), VRL ρ vs vs' → VRL ρ cs.toList cs'.toList →
    VRL ρ ((vs.zipIdx k).foldl (fun cs (c, j) => cs.setIfInBounds (off + j) c) cs).toList ((vs'.zipIdx k).foldl (fun cs (c, j) => cs.setIfInBounds (off + j) c) cs').toList
  | [], _, k, cs, cs', h, hc => by cases h; exact hc
  | v :: vs, _, k, cs, cs', ⟨v', vs', h1, h2, h3⟩, hc => by
    subst h3
    simp only [List.zipIdx_cons, List.foldl_cons]
    refine VRL.foldSet off vs vs' (k + 1) _ _ h2 ?_
    simpa using hc.set (off + k) h1

def PRL (ρ : Env) : List (Nat × Value) → List (Nat × Value) → Prop
  | [], l => l = []
  | (i, v) :: xs, l => ∃ v' ys, VR ρ v v' ∧ PRL ρ xs ys ∧ l = (i, v') :: ys
theorem PRL.map {α : Type} (l : List (Nat × α)) (f f' : α → Value) (h : ∀ x ∈ l, VR ρ (f x.2) (f' x.2)) : PRL ρ (l.map fun (i, x) => (i, f x)) (l.map fun (i, x) => (i, f' x)) := by
  induction l with
  | nil => rfl
  | cons x xs ih => exact ⟨f' x.2, _, h x (by simp), ih (fun y hy => h y (by simp [hy])), rfl⟩

theorem fill_rel {place : Nat → Option (Nat × Nat)} : ∀ (parts parts' : List (Nat × Value)) (cs cs' out : Array Value), PRL ρ parts parts' → VRL ρ cs.toList cs'.toList → Instr.fill place cs parts = some out →
    ∃ out', Instr.fill place cs' parts' = some out' ∧ VRL ρ out.toList out'.toList
  | [], _, cs, cs', out, h, hc, hf => by cases h; simp [Instr.fill] at hf; subst hf; exact ⟨cs', rfl, hc⟩
  | (i, v) :: rest, _, cs, cs', out, ⟨v', ys, h1, h2, h3⟩, hc, hf => by
    subst h3
    simp only [Instr.fill] at hf ⊢
    cases hp : place i with
    | none => simp [hp] at hf
    | some os =>
      obtain ⟨off, size⟩ := os
      simp only [hp] at hf ⊢
      have hl := h1.cells.length
      have hl2 := hc.length
      simp only [Array.length_toList] at hl hl2
      rw [hl, hl2]
      split at hf
      · cases hf
      · rename_i hcnd
        rw [if_neg hcnd]
        refine fill_rel rest ys _ _ out h2 ?_ hf
        have := VRL.foldSet (ρ := ρ) off v.cells.toList v'.cells.toList 0 cs cs' h1.cells hc
        rw [← Array.foldl_toList, ← Array.foldl_toList, Array.toList_zipIdx, Array.toList_zipIdx]
        exact this

theorem run_mapM_places (hT : T.Ok P) : ∀ (fs : List Field) (l : List (Nat × Nat)), placesOf T fs = some l →
    (fs.mapM (m := Sem) fun f => do pure (f.offset, ← Go.sizeOf f.type)).run P w = .ok l w
  | [], l, h => by simp [placesOf] at h; subst h; simp
  | f :: fs, l, h => by
    simp only [placesOf] at h
    obtain ⟨n, hn, h⟩ := Option.bind_eq_some_iff.1 h
    obtain ⟨l', hl, rfl⟩ := Option.map_eq_some_iff.1 h
    have ih := run_mapM_places hT fs l' hl
    rw [List.mapM_cons]
    simp only [Sem.run_bind, run_sizeOf hT hn, Result.andThen_ok, Sem.run_pure, ih]

theorem run_abuild (hT : T.Ok P) {t : TypeId} {parts parts' : List (Nat × Value)} {v : Value} (h : abuild T t parts = some v) (hp : PRL ρ parts parts') : ∃ v', (Instr.build t parts'.toArray).run P w = .ok v' w ∧ VR ρ v v' := by
  unfold abuild at h
  split at h
  · rename_i zero fs hz hu
    obtain ⟨places, hpl, h⟩ := Option.bind_eq_some_iff.1 h
    obtain ⟨out, ho, rfl⟩ := Option.map_eq_some_iff.1 h
    obtain ⟨hz1, hz2⟩ := run_zero (w := w) hT hz
    obtain ⟨out', h1, h2⟩ := fill_rel parts parts' _ _ out hp (VR.cells (VR.closed (ρ := ρ) hz2)) ho
    refine ⟨.agg out', ?_, ?_⟩
    · have hm : (fs.mapM (m := Sem) fun f => do pure (f.offset, ← Go.sizeOf f.type)).run P w = .ok places.toArray w := by
        rw [Array.mapM_eq_mapM_toList]
        simp only [Sem.run_map, run_mapM_places hT _ _ hpl, Result.andThen_ok]
      have hfn : (fun i : Nat => places.toArray[i]?) = (fun i : Nat => places[i]?) := by funext i; simp
      simp only [Instr.build, Sem.run_bind, hz1, Result.andThen_ok, run_und hT hu, hm, hfn]
      rw [h1]
      rfl
    · obtain ⟨out⟩ := out; obtain ⟨out'⟩ := out'; exact ⟨_, h2, rfl⟩
  · rename_i zero n e hz hu
    obtain ⟨size, hs, h⟩ := Option.bind_eq_some_iff.1 h
    obtain ⟨out, ho, rfl⟩ := Option.map_eq_some_iff.1 h
    obtain ⟨hz1, hz2⟩ := run_zero (w := w) hT hz
    obtain ⟨out', h1, h2⟩ := fill_rel parts parts' _ _ out hp (VR.cells (VR.closed (ρ := ρ) hz2)) ho
    refine ⟨.agg out', ?_, ?_⟩
    · simp only [Instr.build, Sem.run_bind, hz1, Result.andThen_ok, run_und hT hu, run_sizeOf hT hs]
      rw [h1]
      rfl
    · obtain ⟨out⟩ := out; obtain ⟨out'⟩ := out'; exact ⟨_, h2, rfl⟩
  · cases h
end

end Go.AM

namespace Go.AM

section
variable {T : Tab} {P : Program} {N : Nat} {ρ : Env} {s : AS} {w : World}

theorem least_none (l : List String) : Instr.least l = none ↔ l = [] := by cases l <;> simp [Instr.least]

theorem partition_some {α : Type} (p : α → Bool) : ∀ (l : List α), l ≠ [] → (l.partition p).2 ≠ [] ∨ (l.partition p).1 ≠ []
  | [], h => absurd rfl h
  | x :: xs, _ => by
    rw [List.partition_eq_filter_filter]
    cases hx : p x
    · left; simp [List.filter_cons, hx]
    · right; simp [List.filter_cons, hx]

theorem missing_iff (want : Array (String × TypeId)) (got : Array Method) : Instr.missingMethod want got = none ↔ hasAll want.toList got = true := by
  unfold Instr.missingMethod
  simp only []
  generalize hm : ((want.toList.filter fun x => !got.any fun m => m.name == x.1 && m.sig == x.2).map (·.1)) = missing
  have h1 : hasAll want.toList got = true ↔ missing = [] := by
    rw [← hm, List.map_eq_nil_iff, List.filter_eq_nil_iff]
    simp only [hasAll, List.all_eq_true]
    constructor
    · intro h x hx; simpa using h x hx
    · intro h x hx; simpa using h x hx
  rw [h1]
  constructor
  · intro h
    by_cases he : missing = []
    · exact he
    · exfalso
      have hor := partition_some (fun x : String => x.contains (Char.ofNat 46)) missing he
      generalize missing.partition (·.contains (Char.ofNat 46)) = pr at h hor
      obtain ⟨u, e⟩ := pr
      simp only at h hor
      rcases hor with h' | h'
      · cases hl : Instr.least e with
        | none => exact h' ((least_none e).1 hl)
        | some y => simp [hl] at h
      · cases hl : Instr.least e with
        | none =>
          rw [hl] at h
          have h2 := (least_none _).1 (show Instr.least (u.map fun id => (id.splitOn ".").getLastD id) = none from h)
          exact h' (by simpa using h2)
        | some y => simp [hl] at h
  · rintro rfl; simp [Instr.least]

theorem run_typeAssert (hT : T.Ok P) {x x' v : Value} {xt a : TypeId} {ok : Bool} (h : atypeAssert T x a ok = some v) (hx : VR ρ x x') : ∃ v', (Instr.typeAssert x' xt a ok).run P w = .ok v' w ∧ VR ρ v v' := by
  have fails : ∀ (v : Value), (if ok then (zeroOf T a).map fun z => Value.tuple #[z, .bool false] else none) = some v → ok = true ∧ ∃ z, (zeroValue a).run P w = .ok z w ∧ v = .tuple #[z, .bool false] ∧ VR ρ v v := by
    intro v hv
    cases ok with
    | false => simp at hv
    | true =>
      simp only [if_true] at hv
      obtain ⟨z, hz, rfl⟩ := Option.map_eq_some_iff.1 hv
      obtain ⟨h1, h2⟩ := run_zero (w := w) hT hz
      exact ⟨rfl, z, h1, rfl, _, ⟨z, _, VR.closed h2, ⟨_, _, rfl, rfl, rfl⟩, rfl⟩, rfl⟩
  have holds : ∀ (y y' : Value), VR ρ y y' → VR ρ (if ok then Value.tuple #[y, .bool true] else y) (if ok then Value.tuple #[y', .bool true] else y') := by
    intro y y' hy
    cases ok
    · exact hy
    · exact ⟨_, ⟨y', _, hy, ⟨_, _, rfl, rfl, rfl⟩, rfl⟩, rfl⟩
  unfold atypeAssert at h
  simp only at h
  split at h
  · rename_i d hu
    cases hx
    obtain ⟨rfl, z, h1, rfl, h2⟩ := fails v h
    refine ⟨_, ?_, h2⟩
    cases d <;> simp [Instr.typeAssert, run_und hT hu, h1]
  · rename_i want t y hu
    obtain ⟨y', hy, rfl⟩ := hx
    split at h
    · rename_i i hi
      split at h
      · rename_i ha
        cases h
        refine ⟨_, ?_, holds (.iface t y) (.iface t y') ⟨y', hy, rfl⟩⟩
        simp [Instr.typeAssert, run_und hT hu, run_info hT hi, (missing_iff want i.methods).2 ha]
      · rename_i ha
        obtain ⟨rfl, z, h1, rfl, h2⟩ := fails v h
        refine ⟨_, ?_, h2⟩
        cases hm : Instr.missingMethod want i.methods with
        | none => exact absurd ((missing_iff _ _).1 hm) ha
        | some m => simp [Instr.typeAssert, run_und hT hu, run_info hT hi, hm, h1]
    · cases h
  · rename_i d t y hn hu
    obtain ⟨y', hy, rfl⟩ := hx
    split at h
    · rename_i ht
      cases h
      subst ht
      refine ⟨_, ?_, holds y y' hy⟩
      cases d <;> first | (exact (hn _ rfl).elim) | simp [Instr.typeAssert, run_und hT hu]
    · rename_i ht
      obtain ⟨rfl, z, h1, rfl, h2⟩ := fails v h
      refine ⟨_, ?_, h2⟩
      cases d <;> first | (exact (hn _ rfl).elim) | simp [Instr.typeAssert, run_und hT hu, ht, h1]
  · cases h

theorem run_minmaxFrom (isMax : Bool) (k : IntKind) : ∀ (l l' : List Value) (x : Int) (v : Value), VRL ρ l l' → minmaxFrom isMax k x l = some v →
    (l'.foldlM (if isMax then Builtin.max2 else Builtin.min2) (.int k x)).run P w = .ok v w ∧ VR ρ v v
  | [], _, x, v, h, hv => by cases h; simp [minmaxFrom] at hv; subst hv; exact ⟨rfl, rfl⟩
  | y :: l, _, x, v, ⟨y', l', h1, h2, h3⟩, hv => by
    subst h3
    cases y with
    | int j y =>
      cases h1
      simp only [minmaxFrom] at hv
      have ih := run_minmaxFrom isMax k l l' _ v h2 hv
      refine ⟨?_, ih.2⟩
      rw [List.foldlM_cons]
      cases isMax
      · simpa [Builtin.min2] using ih.1
      · simpa [Builtin.max2] using ih.1
    | _ => simp [minmaxFrom] at hv

theorem run_minmax {isMax : Bool} {l l' : List Value} {v : Value} (h : minmax isMax l = some v) (hl : VRL ρ l l') (ts : Array TypeId) (t : TypeId) :
    (if isMax then Builtin.max_ ts t l'.toArray else Builtin.min_ ts t l'.toArray).run P w = .ok v w ∧ VR ρ v v := by
  unfold minmax at h
  split at h
  · rename_i k x rest
    obtain ⟨y, ys, h1, h2, rfl⟩ := hl
    cases h1
    have := run_minmaxFrom (P := P) (w := w) isMax k rest ys x v h2 h
    refine ⟨?_, this.2⟩
    cases isMax
    · simpa [Builtin.min_] using this.1
    · simpa [Builtin.max_] using this.1
  · cases h

end

end Go.AM

