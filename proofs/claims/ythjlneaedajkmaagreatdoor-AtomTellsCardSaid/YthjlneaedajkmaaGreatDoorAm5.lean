/-
  The machine, part 5 of 6: regions whose order is drawn do as the machine says, in whatever order.
-/
import Derived.Test.YthjlneaedajkmaaGreatDoorAm4
namespace Go.AM

section
variable {T : Tab} {P : Program} {N : Nat} {ρ : Env} {s : AS} {w : World}

/-! ## Values that are one -/
mutual
theorem veq_eq : ∀ (x y : Value), veq x y = true → x = y
  | .bool a, y, h => by cases y <;> simp_all [veq]
  | .int j a, y, h => by cases y <;> simp_all [veq]
  | .float _ _, y, h => by cases y <;> simp_all [veq]
  | .complex _ _ _, y, h => by cases y <;> simp_all [veq]
  | .string a, y, h => by cases y <;> simp_all [veq]
  | .pointer a, y, h => by cases y <;> simp_all [veq]
  | .slice a l c, y, h => by cases y <;> simp_all [veq]
  | .map a, y, h => by cases y <;> simp_all [veq]
  | .chan _, y, h => by cases y <;> simp_all [veq]
  | .func f ⟨a⟩ ⟨b⟩, y, h => by
    cases y with
    | func g c d =>
      obtain ⟨c⟩ := c; obtain ⟨d⟩ := d
      simp only [veq, Bool.and_eq_true, decide_eq_true_eq] at h
      obtain ⟨⟨rfl, h1⟩, h2⟩ := h
      rw [veqs_eq a c h1, veqs_eq b d h2]
    | _ => simp [veq] at h
  | .nilFunc, y, h => by cases y <;> simp_all [veq]
  | .iface t v, y, h => by
    cases y with
    | iface u x =>
      simp only [veq, Bool.and_eq_true, decide_eq_true_eq] at h
      obtain ⟨rfl, h1⟩ := h
      rw [veq_eq v x h1]
    | _ => simp [veq] at h
  | .nilIface, y, h => by cases y <;> simp_all [veq]
  | .agg ⟨a⟩, y, h => by
    cases y with
    | agg c =>
      obtain ⟨c⟩ := c
      simp only [veq] at h
      rw [veqs_eq a c h]
    | _ => simp [veq] at h
  | .tuple ⟨a⟩, y, h => by
    cases y with
    | tuple c =>
      obtain ⟨c⟩ := c
      simp only [veq] at h
      rw [veqs_eq a c h]
    | _ => simp [veq] at h
theorem veqs_eq : ∀ (x y : List Value), veqs x y = true → x = y
  | [], y, h => by cases y <;> simp_all [veqs]
  | x :: xs, y, h => by
    cases y with
    | nil => simp [veqs] at h
    | cons y ys =>
      simp only [veqs, Bool.and_eq_true] at h
      rw [veq_eq x y h.1, veqs_eq xs ys h.2]
end

/-! ## Operations that turn nothing -/
theorem fieldsEq_congr {f g : Field → Option Bool} (h : ∀ x, f x = g x) (l : List Field) : fieldsEq f l = fieldsEq g l := by
  have : f = g := funext h
  rw [this]

theorem aeq_any (s s2 : AS) : ∀ (d : Nat) (t : TypeId) (x y : Value), aeq T s2 d t x y = aeq T s d t x y := by
  intro d
  induction d with
  | zero => intro t x y; rfl
  | succ d ih =>
    intro t x y
    unfold aeq
    simp only [ih]

theorem abin_any (s s2 : AS) (op : BinOp) (t : TypeId) (ox oy : Operand) (x y : Value) : abin T s2 op t ox oy x y = abin T s op t ox oy x y := by
  unfold abin
  simp only [aeq_any s s2]

theorem keyEq_any (s s2 : AS) (t : TypeId) (x y : Value) : keyEq T s2 t x y = keyEq T s t x y := by
  unfold keyEq
  simp only [aeq_any s s2]
theorem findAsk_any (s s2 : AS) (t : TypeId) (k : Value) : ∀ (es : List MapEntry) (i : Nat), findAsk T s2 t k es i = findAsk T s t k es i := by
  intro es
  induction es with
  | nil => intro i; rfl
  | cons e es ih => intro i; unfold findAsk; rw [keyEq_any s s2, ih]
theorem findKey_any (s s2 : AS) (t : TypeId) (k : Value) (es : List MapEntry) : findKey T s2 t k es = findKey T s t k es := by
  unfold findKey
  simp only [findAsk_any s s2]
theorem alookup_heap {s s2 : AS} (h : s2.heap = s.heap) (t : TypeId) (x ix : Value) (ok : Bool) : alookup T s2 t x ix ok = alookup T s t x ix ok := by
  unfold alookup
  simp only [findKey_any s s2, h]
theorem cellsAt_heap {s s2 : AS} (h : s2.heap = s.heap) (a : Addr) (n : Nat) : cellsAt s2 a n = cellsAt s a n := by unfold cellsAt; rw [h]
theorem loadVar_heap {s s2 : AS} (h : s2.heap = s.heap) (t : TypeId) (a : Addr) : AM.loadVar T s2 t a = AM.loadVar T s t a := by
  unfold AM.loadVar; simp only [cellsAt_heap h]
theorem alen_heap {s s2 : AS} (h : s2.heap = s.heap) (ts : List TypeId) (x : Value) : alen T s2 ts x = alen T s ts x := by
  unfold alen; rw [h]

/-- An operation that looks: what it does, whatever the state's next number; if it looks at no state: in whatever state. -/
theorem looks_op {R : Rec} {op : Op} {ev : Operand → Value} {v : Value} {s' : AS} (hk : kindOf T op = .pure ∨ kindOf T op = .read) (h : aop0 T R op ev s = some (v, s')) :
    s' = s ∧ ∀ s2 : AS, (kindOf T op = .pure ∨ s2.heap = s.heap) → aop0 T R op ev s2 = some (v, s2) := by
  have mp : ∀ (o : Option Value) (f : AS → Option (Value × AS)), (∀ s2, f s2 = o.map fun v => (v, s2)) → f s = some (v, s') → s' = s ∧ ∀ s2 : AS, f s2 = some (v, s2) := by
    intro o f hf hs
    rw [hf] at hs
    obtain ⟨z, hz, hs⟩ := Option.map_eq_some_iff.1 hs
    cases hs
    exact ⟨rfl, fun s2 => by rw [hf, hz]; rfl⟩
  have mpr : ∀ (o : AS → Option Value) (f : AS → Option (Value × AS)), (∀ s2, f s2 = (o s2).map fun v => (v, s2)) → (∀ s2 : AS, s2.heap = s.heap → o s2 = o s) → f s = some (v, s') → s' = s ∧ ∀ s2 : AS, s2.heap = s.heap → f s2 = some (v, s2) := by
    intro o f hf hh hs
    rw [hf] at hs
    obtain ⟨z, hz, hs⟩ := Option.map_eq_some_iff.1 hs
    cases hs
    exact ⟨rfl, fun s2 h2 => by rw [hf, hh s2 h2, hz]; rfl⟩
  have imp : ∀ {p : Prop} {f : AS → Option (Value × AS)}, (s' = s ∧ ∀ s2 : AS, f s2 = some (v, s2)) → (s' = s ∧ ∀ s2 : AS, (p ∨ s2.heap = s.heap) → f s2 = some (v, s2)) := fun h => ⟨h.1, fun s2 _ => h.2 s2⟩
  have impr : ∀ {p : Prop} {f : AS → Option (Value × AS)}, ¬ p → (s' = s ∧ ∀ s2 : AS, s2.heap = s.heap → f s2 = some (v, s2)) → (s' = s ∧ ∀ s2 : AS, (p ∨ s2.heap = s.heap) → f s2 = some (v, s2)) := fun hp h => ⟨h.1, fun s2 h2 => h.2 s2 (h2.resolve_left hp)⟩
  cases op with
  | move x => exact imp (mp (some (ev x)) _ (fun _ => rfl) h)
  | assign x => exact imp (mp (some (ev x)) _ (fun _ => rfl) h)
  | pick c a b =>
    refine imp (mp (match ev c with | .bool t => some (if t then ev a else ev b) | _ => none) _ (fun s2 => ?_) h)
    simp only [aop0]
    split
    · rename_i t e; rw [e]; rfl
    · rename_i hn
      split
      · rename_i t e; exact absurd e (hn t)
      · rfl
  | build t parts => exact imp (mp (abuild T t (parts.toList.map fun (i, x) => (i, ev x))) _ (fun _ => rfl) h)
  | nilCheck x =>
    refine imp (mp (match ev x with
      | .pointer none | .nilIface | .nilFunc => none
      | .func (.method _) _ _ => none
      | v => some v) _ (fun s2 => ?_) h)
    simp only [aop0]
    cases ev x with
    | pointer a => cases a <;> rfl
    | func f a c => cases f <;> rfl
    | _ => rfl
  | unOp op t x => exact imp (mp (aun op (ev x)) _ (fun _ => rfl) h)
  | makeInterface t x =>
    refine imp (mp (match T.und t with
      | some (.interface _) => none
      | some _ => some (.iface t (ev x))
      | none => none) _ (fun s2 => ?_) h)
    simp only [aop0]
    cases T.und t with
    | none => rfl
    | some d => cases d <;> rfl
  | makeFunc fn first captured =>
    refine imp (mp (match fn with
      | .func _ | .method _ => some (.func fn (first.map ev) (captured.map ev))
      | _ => none) _ (fun s2 => ?_) h)
    cases fn <;> rfl
  | fieldAddr t x f => exact imp (mp (afieldAddr T t (ev x) f) _ (fun _ => rfl) h)
  | field t x f => exact imp (mp (afield T t (ev x) f) _ (fun _ => rfl) h)
  | indexAddr t x ix => exact imp (mp (aindexAddr T t (ev x) (ev ix)) _ (fun _ => rfl) h)
  | index t x ix => exact imp (mp (aindex T t (ev x) (ev ix)) _ (fun _ => rfl) h)
  | extract t i =>
    refine imp (mp (match ev t with | .tuple vs => vs.toList[i]? | _ => none) _ (fun s2 => ?_) h)
    simp only [aop0]
    cases ev t <;> rfl
  | typeAssert x xt a ok => exact imp (mp (atypeAssert T (ev x) a ok) _ (fun _ => rfl) h)
  | slice t x lo hi mx => exact imp (mp (aslice T t (ev x) (lo.map ev) (hi.map ev) (mx.map ev)) _ (fun _ => rfl) h)
  | binOp op t x y e => exact imp (mp (abin T s op t x y (ev x) (ev y)) _ (fun s2 => by simp only [aop0, abin_any s s2]) h)
  | load t a =>
    refine impr (by simp [kindOf]) (mpr (fun s => match ev a with
      | .pointer (some p) => AM.loadVar T s t p
      | _ => none) _ (fun s2 => ?_) (fun s2 h2 => ?_) h)
    · simp only [aop0]
      cases ev a with
      | pointer p => cases p <;> rfl
      | _ => rfl
    · simp only [loadVar_heap h2]
  | lookup t x ix ok =>
    exact impr (by simp [kindOf]) (mpr (fun s => alookup T s t (ev x) (ev ix) ok) _ (fun s2 => rfl) (fun s2 h2 => alookup_heap h2 _ _ _ _) h)
  | convert src dst x =>
    have h : aconv T s src dst (ev x) = some (v, s') := h
    show s' = s ∧ ∀ s2 : AS, (kindOf T (.convert src dst x) = .pure ∨ s2.heap = s.heap) → aconv T s2 src dst (ev x) = some (v, s2)
    generalize hx : ev x = y at h ⊢
    simp only [kindOf] at hk ⊢
    cases hsrc : T.und src with
    | none => unfold aconv at h; simp [hsrc] at h
    | some ds =>
    cases hdst : T.und dst with
    | none => simp [hdst] at hk
    | some dd =>
      simp only [hdst] at hk ⊢
      unfold aconv at h ⊢
      simp only [hsrc, hdst] at h ⊢
      split at h
      · cases h; exact ⟨rfl, fun s2 _ => rfl⟩
      · cases h; exact ⟨rfl, fun s2 _ => rfl⟩
      · cases h; exact ⟨rfl, fun s2 _ => rfl⟩
      · rename_i e; cases e; simp at hk
      · rename_i t a e1 e2 
        cases e1; cases e2
        split at h
        · rename_i c e g n h1 h2 h3
          split at h
          · rename_i hlt
            cases h
            exact ⟨rfl, fun s2 h4 => by
              rcases h4 with h4 | h4
              · simp at h4
              · rw [h4]; simp only [h1, h2, h3]; rw [if_pos hlt]⟩
          · cases h
        · cases h
      · rename_i u a e1 e2
        cases e1; cases e2
        split at h
        · rename_i c e g n h2 h3
          split at h
          · rename_i hlt
            cases h
            exact ⟨rfl, fun s2 h4 => by
              rcases h4 with h4 | h4
              · simp at h4
              · rw [h4]; simp only [h2, h3]; rw [if_pos hlt]⟩
          · cases h
        · cases h
      · cases h
  | call c =>
    obtain ⟨callee, args, ats⟩ := c
    cases callee with
    | invoke r n => simp [kindOf] at hk
    | value f => simp [kindOf] at hk
    | builtin b =>
      have h : abuiltin T s b ats.toList (args.toList.map ev) = some (v, s') := h
      show s' = s ∧ ∀ s2 : AS, (kindOf T (.call ⟨.builtin b, args, ats⟩) = .pure ∨ s2.heap = s.heap) → abuiltin T s2 b ats.toList (args.toList.map ev) = some (v, s2)
      generalize args.toList.map ev = l at h ⊢
      cases b with
      | len =>
        match l, h with
        | [x], h => exact impr (by simp [kindOf]) (mpr (fun s => alen T s ats.toList x) (fun s => abuiltin T s .len ats.toList [x]) (fun s2 => rfl) (fun s2 h2 => alen_heap h2 _ _) h)
      | cap =>
        match l, h with
        | [.slice a n c], h =>
          refine imp (mp (match ats.toList with
            | t :: _ => match T.und t with
              | some (.slice _) => if c < capBase then some (goInt c) else none
              | _ => none
            | _ => none) (fun s => abuiltin T s .cap ats.toList [.slice a n c]) (fun s2 => ?_) h)
          simp only [abuiltin]
          cases ats.toList with
          | nil => rfl
          | cons t ts =>
            simp only
            cases T.und t with
            | none => rfl
            | some d =>
              cases d with
              | slice e => simp only; split <;> rfl
              | _ => rfl
      | max => exact imp (mp (minmax true l) (fun s => abuiltin T s .max ats.toList l) (fun s2 => by unfold abuiltin; split <;> first | contradiction | rfl) h)
      | min => exact imp (mp (minmax false l) (fun s => abuiltin T s .min ats.toList l) (fun s2 => by unfold abuiltin; split <;> first | contradiction | rfl) h)
      | unsafeSliceData =>
        match l, h with
        | [.slice (some a) n c], h =>
          refine imp (mp (if 0 < (if c < capBase then c else capLow c) then some (.pointer (some a)) else none) (fun s => abuiltin T s .unsafeSliceData ats.toList [.slice (some a) n c]) (fun s2 => ?_) h)
          show (if 0 < (if c < capBase then c else capLow c) then some (Value.pointer (some a), s2) else none) = _
          by_cases hc : 0 < (if c < capBase then c else capLow c)
          · rw [if_pos hc, if_pos hc]; rfl
          · rw [if_neg hc, if_neg hc]; rfl
      | _ => simp [kindOf] at hk
  | _ => simp [kindOf] at hk
end
end Go.AM

namespace Go.AM

section
variable {T : Tab} {P : Program} {N : Nat} {ρ : Env} {s : AS} {w : World}

/-- An operation that looks yields a value; the world is as it was. -/
def Tells (P : Program) (ρ : Env) (w : World) (m : Sem Next) (v : Value) : Prop := ∃ v', m.run P w = .ok (.value v') w ∧ VR ρ v v'

theorem Tells.of {m : Sem Value} {v : Value} (h : ∃ v', m.run P w = .ok v' w ∧ VR ρ v v') : Tells P ρ w (do pure (.value (← m))) v := by
  obtain ⟨v', h1, h2⟩ := h; exact ⟨v', by simp [h1], h2⟩
theorem Tells.value {v v' : Value} (h : VR ρ v v') : Tells P ρ w (pure (.value v')) v := ⟨v', by simp, h⟩

theorem tells_aconv (hT : T.Ok P) (hr : HR T ρ N s w) {src dst : TypeId} {x x' v : Value} {s' : AS} (hk : ∀ e, T.und dst ≠ some (.slice e)) (h : aconv T s src dst x = some (v, s')) (hx : VR ρ x x') : ∃ v', (Go.convert src dst x').run P w = .ok v' w ∧ VR ρ v v' := by
  unfold aconv at h
  split at h
  · rename_i d k j n hu hv
    cases hx; cases h
    refine ⟨.int k (k.wrap n), ?_, rfl⟩
    simp [convert, run_und hT hu, run_und hT hv, Conv.intToInt]
  · rename_i d j n hu hv
    cases hx; cases h
    refine ⟨.string (Utf8.encode n), ?_, rfl⟩
    simp [convert, run_und hT hu, run_und hT hv, Conv.intToString]
  · rename_i d b hu hv
    cases hx; cases h
    refine ⟨.string b, ?_, rfl⟩
    simp [convert, run_und hT hu, run_und hT hv]
  · rename_i d e b hu hv
    exact absurd hv (hk _)
  · rename_i t a hu hv
    obtain ⟨b, hb, rfl⟩ := hx
    split at h
    · rename_i c e g n hsp hkk hs
      split at h
      · rename_i hlt
        cases h
        obtain ⟨b', c', fz, k1, k2, k3, k4⟩ := cells_real hr hkk
        rw [hb] at k1; cases k1
        have hsh : w.shape? b = some (e, c'.size) := by simp [World.shape?, k2]
        refine ⟨.pointer (some ⟨b, a.off, a.spot⟩), ?_, b, hb, rfl⟩
        have hno : ¬ (c'.size ≤ a.off) := by omega
        simp [convert, run_und hT hu, run_und hT hv, Conv.unsafePointer, Conv.seenAt, viewAt_none (P := P) k2, cellsIn, hsh, run_sizeOf hT hs, hno]
      · cases h
    · cases h
  · rename_i u a hu hv
    obtain ⟨b, hb, rfl⟩ := hx
    split at h
    · rename_i c e g n hkk hs
      split at h
      · rename_i hcnd
        cases h
        obtain ⟨rfl, ho, hsp, hlt⟩ := hcnd
        obtain ⟨b', c', fz, k1, k2, k3, k4⟩ := cells_real hr hkk
        rw [hb] at k1; cases k1
        have hsh : w.shape? b = some (e, c'.size) := by simp [World.shape?, k2]
        refine ⟨.pointer (some ⟨b, a.off, a.spot⟩), ?_, b, hb, rfl⟩
        have hc : P.cellsOf e = n + 1 := by
          unfold AM.sizeOf at hs
          obtain ⟨i, hi, h⟩ := Option.map_eq_some_iff.1 hs
          simp [Program.cellsOf, hT.info e i hi, h]
        have hl : liesAt P P.depth e (c'.size / P.cellsOf e) a.off e 1 = true := by
          rw [ho]
          refine run_liesAt hT hs ?_
          rw [hc, Nat.le_div_iff_mul_le (by omega)]; omega
        simp [convert, run_und hT hu, run_und hT hv, Conv.unsafePointer, Conv.seenAt, viewAt_none (P := P) k2, variablesAt, hsh, run_sizeOf hT hs, hl]
      · cases h
    · cases h
  · cases h

set_option maxHeartbeats 4000000 in
theorem tells_op (hT : T.Ok P) (hr : HR T ρ N s w) {R : Rec} {o : Oper} {ev ev' : Operand → Value} {v : Value} {s' : AS} (hk : kindOf T o.op = .pure ∨ kindOf T o.op = .read) (h : aop0 T R o.op ev s = some (v, s')) (he : EvR ρ o.op ev ev') :
    Tells P ρ w (execOp ev' o) v := by
  obtain ⟨dst, op, ty, pos, after, guard⟩ := o
  simp only at h he hk
  cases op with
  | move x => cases h; exact Tells.value (he _ (by simp [Op.operands]))
  | assign x => cases h; exact Tells.value (he _ (by simp [Op.operands]))
  | pick c a b =>
    have h1 := he c (by simp [Op.operands]); have h2 := he a (by simp [Op.operands]); have h3 := he b (by simp [Op.operands])
    simp only [aop0] at h
    split at h
    · rename_i t hv
      cases h
      rw [hv] at h1
      have h1 : ev' c = .bool t := h1
      refine ⟨(if t then ev' a else ev' b), by simp [execOp, h1, asBool], ?_⟩
      cases t
      · exact h3
      · exact h2
    · cases h
  | build t parts =>
    obtain ⟨z, hz, h⟩ := Option.map_eq_some_iff.1 h
    cases h
    have hp := PRL.map (ρ := ρ) parts.toList ev ev' (fun x hx => he x.2 (by simp only [Op.operands]; exact List.mem_map.2 ⟨x, hx, rfl⟩))
    have := run_abuild (w := w) hT hz hp
    refine Tells.of (m := Instr.build t (parts.map fun (i, x) => (i, ev' x))) ?_
    rwa [← List.map_toArray] at this
  | nilCheck x =>
    obtain ⟨ρ', nx, v', w', g1, g2, g3, g4⟩ := does_op (o := ⟨dst, .nilCheck x, ty, pos, after, guard⟩) hT hr h he (fun c e => by cases e)
    have h1 := he x (by simp [Op.operands])
    have key : ∀ y y' : Value, VR ρ y y' → (match y with
      | .pointer none | .nilIface | .nilFunc => none
      | .func (.method _) _ _ => none
      | v => some (v, s)) = some (v, s') → v = y ∧ execOp (fun _ => y') { dst, op := .nilCheck x, type := ty, pos, after, guard } = pure (.value y') := by
      intro y y' hy hm
      cases y with
      | pointer a =>
        cases a with
        | none => cases hm
        | some a => cases hm; obtain ⟨b, _, rfl⟩ := hy; exact ⟨rfl, rfl⟩
      | nilIface => cases hm
      | nilFunc => cases hm
      | func f a c =>
        obtain ⟨a⟩ := a; obtain ⟨c⟩ := c
        cases f with
        | method n => cases hm
        | func g => cases hm; obtain ⟨f', a', c', hf, _, _, rfl⟩ := hy; cases hf; exact ⟨rfl, rfl⟩
        | yield l => cases hm; obtain ⟨f', a', c', ⟨l', _, rfl⟩, _, _, rfl⟩ := hy; exact ⟨rfl, rfl⟩
        | methodOf _ _ => obtain ⟨f', a', c', hf, _⟩ := hy; exact hf.elim
        | via _ _ _ _ => obtain ⟨f', a', c', hf, _⟩ := hy; exact hf.elim
      | bool b => cases hm; cases hy; exact ⟨rfl, rfl⟩
      | int k n => cases hm; cases hy; exact ⟨rfl, rfl⟩
      | float _ _ => exact hy.elim
      | complex _ _ _ => exact hy.elim
      | string _ => cases hm; cases hy; exact ⟨rfl, rfl⟩
      | slice a l c =>
        cases hm
        obtain ⟨a', c', rfl, _⟩ := hy.slice_move
        exact ⟨rfl, rfl⟩
      | map r =>
        cases hm
        cases r with
        | none => cases hy; exact ⟨rfl, rfl⟩
        | some r => obtain ⟨b, _, rfl⟩ := hy; exact ⟨rfl, rfl⟩
      | chan _ => exact hy.elim
      | iface t x => cases hm; obtain ⟨x', _, rfl⟩ := hy; exact ⟨rfl, rfl⟩
      | agg cs => obtain ⟨cs⟩ := cs; cases hm; obtain ⟨x', _, rfl⟩ := hy; exact ⟨rfl, rfl⟩
      | tuple cs => obtain ⟨cs⟩ := cs; cases hm; obtain ⟨x', _, rfl⟩ := hy; exact ⟨rfl, rfl⟩
    obtain ⟨rfl, h3⟩ := key _ _ h1 h
    have h4 : execOp ev' { dst, op := .nilCheck x, type := ty, pos, after, guard } = execOp (fun _ => ev' x) { dst, op := .nilCheck x, type := ty, pos, after, guard } := rfl
    rw [h4, h3]
    exact Tells.value h1
  | unOp op t x =>
    obtain ⟨z, hz, h⟩ := Option.map_eq_some_iff.1 h
    cases h
    have := run_aun (P := P) (w := w) hz (he x (by simp [Op.operands]))
    exact Tells.of (m := Op.unary op (ev' x)) ⟨v, this.1, this.2⟩
  | makeInterface t x =>
    have h1 := he x (by simp [Op.operands])
    simp only [aop0] at h
    split at h
    · cases h
    · rename_i d hn hu
      cases h
      refine Tells.of (m := Instr.makeInterface t (ev' x)) ⟨.iface t (ev' x), ?_, _, h1, rfl⟩
      cases d <;> first
        | (exact absurd hu (hn _))
        | (exact (hn _ rfl).elim)
        | simp [Instr.makeInterface, run_und hT hu]
    · cases h
  | makeFunc fn first captured =>
    have g1 := VRL.map (ρ := ρ) first.toList ev ev' (fun x hx => he x (by simp only [Op.operands, Array.toList_append, List.mem_append]; exact .inl hx))
    have g2 := VRL.map (ρ := ρ) captured.toList ev ev' (fun x hx => he x (by simp only [Op.operands, Array.toList_append, List.mem_append]; exact .inr hx))
    have ha : ∀ (l : Array Operand) (f : Operand → Value), l.map f = ⟨l.toList.map f⟩ := fun l f => by
      apply Array.ext'; simp
    simp only [aop0] at h
    split at h
    · cases h
      refine Tells.of (m := Instr.makeFunc _ (first.map ev') (captured.map ev')) ⟨_, by simp [Instr.makeFunc] <;> rfl, ?_⟩
      rw [ha first ev, ha captured ev, ha first ev', ha captured ev']
      exact ⟨_, _, _, rfl, g1, g2, rfl⟩
    · cases h
      refine Tells.of (m := Instr.makeFunc _ (first.map ev') (captured.map ev')) ⟨_, by simp [Instr.makeFunc] <;> rfl, ?_⟩
      rw [ha first ev, ha captured ev, ha first ev', ha captured ev']
      exact ⟨_, _, _, rfl, g1, g2, rfl⟩
    · cases h
  | slice t x lo hi mx =>
    obtain ⟨z, hz, h⟩ := Option.map_eq_some_iff.1 h
    cases h
    have ho : ∀ y : Option Operand, (∀ z, y = some z → z ∈ (Op.slice t x lo hi mx).operands.toList) → VRO ρ (y.map ev) (y.map ev') := fun y hy => by
      cases y with
      | none => first | trivial | rfl
      | some y => exact ⟨_, he y (hy y rfl), rfl⟩
    exact Tells.of (m := Instr.sliceAt t (ev' x) (lo.map ev') (hi.map ev') (mx.map ev')) (run_aslice (P := P) hT hz (he x (by simp [Op.operands])) (ho lo (fun z hz => by subst hz; simp [Op.operands])) (ho hi (fun z hz => by subst hz; simp [Op.operands])) (ho mx (fun z hz => by subst hz; simp [Op.operands])))
  | fieldAddr t x f =>
    obtain ⟨z, hz, h⟩ := Option.map_eq_some_iff.1 h
    cases h
    exact Tells.of (m := Instr.fieldAt t (ev' x) f) (run_afieldAddr (P := P) hT hz (he x (by simp [Op.operands])))
  | field t x f =>
    obtain ⟨z, hz, h⟩ := Option.map_eq_some_iff.1 h
    cases h
    exact Tells.of (m := Instr.field t (ev' x) f) (run_afield (P := P) hT hz (he x (by simp [Op.operands])))
  | indexAddr t x ix =>
    obtain ⟨z, hz, h⟩ := Option.map_eq_some_iff.1 h
    cases h
    exact Tells.of (m := Instr.indexAt t (ev' x) (ev' ix)) (run_aindexAddr (P := P) hT hz (he x (by simp [Op.operands])) (he ix (by simp [Op.operands])))
  | index t x ix =>
    obtain ⟨z, hz, h⟩ := Option.map_eq_some_iff.1 h
    cases h
    exact Tells.of (m := Instr.index t (ev' x) (ev' ix)) (run_aindex (P := P) hT hz (he x (by simp [Op.operands])) (he ix (by simp [Op.operands])))
  | extract t i =>
    have h1 := he t (by simp [Op.operands])
    simp only [aop0] at h
    split at h
    · rename_i vs hv
      obtain ⟨z, hz, h⟩ := Option.map_eq_some_iff.1 h
      cases h
      rw [hv] at h1
      obtain ⟨vs⟩ := vs
      obtain ⟨vs', h2, h3⟩ := h1
      obtain ⟨y, hy, hyr⟩ := h2.get? hz
      exact Tells.of (m := Instr.extract (ev' t) i) ⟨y, by simp [Instr.extract, h3, hy], hyr⟩
    · cases h
  | typeAssert x xt a ok =>
    obtain ⟨z, hz, h⟩ := Option.map_eq_some_iff.1 h
    cases h
    exact Tells.of (m := Instr.typeAssert (ev' x) xt a ok) (run_typeAssert (P := P) hT hz (he x (by simp [Op.operands])))
  | binOp op t x y extra =>
    obtain ⟨z, hz, h⟩ := Option.map_eq_some_iff.1 h
    cases h
    exact Tells.of (m := do eqGuard op t x y (ev' x) (ev' y); binOp op t (ev' x) (ev' y)) (run_abin hT hr hz (he x (by simp [Op.operands])) (he y (by simp [Op.operands])))
  | load t a =>
    have h1 := he a (by simp [Op.operands])
    simp only [aop0] at h
    split at h
    · rename_i p hp
      obtain ⟨z, hz, h⟩ := Option.map_eq_some_iff.1 h
      cases h
      rw [hp] at h1
      obtain ⟨b, hb, h1⟩ := h1
      obtain ⟨b', v', g1, g2, g3⟩ := run_loadVar (P := P) hT hr hz
      rw [hb] at g1; cases g1
      exact Tells.of (m := Instr.loadAt t (ev' a)) ⟨v', by simp [Instr.loadAt, h1, Instr.sureAddr, g2], g3⟩
    · cases h
  | lookup t x ix ok =>
    obtain ⟨z, hz, h⟩ := Option.map_eq_some_iff.1 h
    cases h
    exact Tells.of (m := Instr.lookup t (ev' x) (ev' ix) ok) (run_alookup (P := P) hT hr hz (he x (by simp [Op.operands])) (he ix (by simp [Op.operands])))
  | convert src dst x =>
    exact Tells.of (m := convert src dst (ev' x)) (tells_aconv hT hr (fun e he => by simp [kindOf, he] at hk) h (he x (by simp [Op.operands])))
  | call c =>
    obtain ⟨callee, args, ats⟩ := c
    cases callee with
    | invoke r n => simp [kindOf] at hk
    | value f => simp [kindOf] at hk
    | builtin b =>
      have h : abuiltin T s b ats.toList (args.toList.map ev) = some (v, s') := h
      have hargs : VRL ρ (args.toList.map ev) (args.toList.map ev') := VRL.map _ _ _ (fun x hx => he x (by
        simp only [Op.operands, Call.operands, Array.toList_append, List.mem_append]; exact .inr hx))
      obtain ⟨m, h1, h2⟩ : ∃ m : Sem Value, (∀ cs, builtin b ats ty cs ⟨args.toList.map ev'⟩ = (do pure (.value (← m)))) ∧ ∃ v', m.run P w = .ok v' w ∧ VR ρ v v' := by
        generalize args.toList.map ev' = l' at hargs ⊢
        generalize args.toList.map ev = l at h hargs
        cases b with
        | len =>
          match l, h, hargs with
          | [x], h, hargs =>
            obtain ⟨x', _, h2, e1, e2⟩ := hargs
            cases e1; cases e2
            obtain ⟨v1, h3, h4⟩ := Option.map_eq_some_iff.1 (show (alen T s ats.toList x).map (fun v => (v, s)) = some (v, s') from h)
            cases h4
            exact ⟨_, fun _ => rfl, run_alen hT hr h3 h2⟩
        | cap =>
          match l, h, hargs with
          | [.slice a n c], h, hargs =>
            obtain ⟨x', _, h2, e1, e2⟩ := hargs
            cases e1; cases e2
            refine ⟨_, fun _ => rfl, ?_⟩
            unfold abuiltin at h
            simp only at h
            split at h
            · rename_i t ts hts
              split at h
              · rename_i e hu
                split at h
                · rename_i hc
                  cases h
                  obtain ⟨a', c', rfl, h3, _⟩ := h2.slice_move
                  cases h3.exact_eq hc
                  have ht : ats[0]? = some t := by rw [← Array.getElem?_toList, hts]; rfl
                  exact ⟨goInt _, by simp [Builtin.cap_, ht, run_und hT hu], rfl⟩
                · cases h
              · cases h
            · cases h
        | max =>
          have h : (minmax true l).map (fun v => (v, s)) = some (v, s') := by
            unfold abuiltin at h; split at h <;> first | contradiction | exact h
          obtain ⟨v1, h3, h4⟩ := Option.map_eq_some_iff.1 h
          cases h4
          exact ⟨_, fun _ => rfl, v, (run_minmax (P := P) (w := w) h3 hargs ats ty).1, (run_minmax (P := P) (w := w) h3 hargs ats ty).2⟩
        | min =>
          have h : (minmax false l).map (fun v => (v, s)) = some (v, s') := by
            unfold abuiltin at h; split at h <;> first | contradiction | exact h
          obtain ⟨v1, h3, h4⟩ := Option.map_eq_some_iff.1 h
          cases h4
          exact ⟨_, fun _ => rfl, v, (run_minmax (P := P) (w := w) h3 hargs ats ty).1, (run_minmax (P := P) (w := w) h3 hargs ats ty).2⟩
        | unsafeSliceData =>
          match l, h, hargs with
          | [.slice (some a) n c], h, hargs =>
            obtain ⟨x', _, h2, e1, e2⟩ := hargs
            cases e1; cases e2
            refine ⟨_, fun _ => rfl, ?_⟩
            have h : (if 0 < (if c < capBase then c else capLow c) then some (Value.pointer (some a), s) else none) = some (v, s') := h
            by_cases hc : 0 < (if c < capBase then c else capLow c)
            · rw [if_pos hc] at h
              cases h
              obtain ⟨b', c', h3, h4, rfl⟩ := h2
              have hpos : c' ≠ 0 := by
                by_cases hcc : c < capBase
                · rw [if_pos hcc] at hc; rw [h4.exact_eq hcc]; omega
                · rw [if_neg hcc] at hc; have := h4.low hcc; omega
              obtain ⟨k, rfl⟩ : ∃ k, c' = k + 1 := ⟨c' - 1, by omega⟩
              exact ⟨.pointer (some ⟨b', a.off, a.spot⟩), rfl, b', h3, rfl⟩
            · rw [if_neg hc] at h; cases h
        | _ => simp [kindOf] at hk
      obtain ⟨cs, hcs⟩ : ∃ cs, resolve ev' ⟨.builtin b, args, ats⟩ ty = pure { target := .builtin b ats ty cs, args := args.map ev' } := ⟨_, rfl⟩
      have h0 : execOp ev' ⟨dst, .call ⟨.builtin b, args, ats⟩, ty, pos, after, guard⟩ = (do let d ← resolve ev' ⟨.builtin b, args, ats⟩ ty; invoke d.target d.args) := rfl
      have hmap : args.map ev' = ⟨args.toList.map ev'⟩ := by apply Array.ext'; simp
      obtain ⟨v', g1, g2⟩ := Tells.of h2
      refine ⟨v', ?_, g2⟩
      rw [h0, hcs]
      simp only [Sem.run_bind, Sem.run_pure, Result.andThen_ok, invoke]
      rw [hmap, h1 cs]
      exact g1
  | _ => simp [kindOf] at hk
end
end Go.AM

namespace Go.AM

section
variable {T : Tab} {P : Program} {R : Rec} {ops : Array Oper}

/-- What is run of a region in its order. -/
structure Runs (T : Tab) (R : Rec) (ops : Array Oper) (A : Nat → AAct) (S : Nat → AS) (V : Nat → Value) : Prop where
  put : ∀ i o, ops[i]? = some o → A (i + 1) = (A i).put o.dst (V i)
  want : ∀ i o, ops[i]? = some o → wantedA ops o (A i) = true → aop T R o.op (A i).eval (S i) = some (V i, S (i + 1))
  skip : ∀ i o, ops[i]? = some o → wantedA ops o (A i) = false → V i = undef ∧ S (i + 1) = S i
  next : ∀ i, i < ops.size → (S i).next ≤ (S (i + 1)).next
  lim : ∀ i, i < ops.size → (S (i + 1)).lim = (S i).lim

theorem trace_rel : ∀ (l : List Oper) (a : AAct) (s : AS) (tr : List (AAct × AS × Value)) (aN : AAct) (sN : AS), trace T R ops l a s = some (tr, aN, sN) →
    ∃ (A : Nat → AAct) (S : Nat → AS) (V : Nat → Value), A 0 = a ∧ S 0 = s ∧ A l.length = aN ∧ S l.length = sN ∧ tr.length = l.length ∧
      ∀ i o, l[i]? = some o → tr[i]? = some (A i, S i, V i) ∧ A (i + 1) = (A i).put o.dst (V i) ∧ (wantedA ops o (A i) = true → aop T R o.op (A i).eval (S i) = some (V i, S (i + 1))) ∧
        (wantedA ops o (A i) = false → V i = undef ∧ S (i + 1) = S i) ∧ (S i).next ≤ (S (i + 1)).next ∧ (S (i + 1)).lim = (S i).lim := by
  intro l
  induction l with
  | nil =>
    intro a s tr aN sN h
    simp only [trace, Option.some.injEq, Prod.mk.injEq] at h
    obtain ⟨rfl, rfl, rfl⟩ := h
    exact ⟨fun _ => a, fun _ => s, fun _ => undef, rfl, rfl, rfl, rfl, rfl, fun i o h => by simp at h⟩
  | cons o l ih =>
    intro a s tr aN sN h
    have fin : ∀ (v : Value) (s1 : AS) (tr' : List (AAct × AS × Value)), trace T R ops l (a.put o.dst v) s1 = some (tr', aN, sN) → tr = (a, s, v) :: tr' →
        (wantedA ops o a = true → aop T R o.op a.eval s = some (v, s1)) → (wantedA ops o a = false → v = undef ∧ s1 = s) → s.next ≤ s1.next → s1.lim = s.lim →
        ∃ (A : Nat → AAct) (S : Nat → AS) (V : Nat → Value), A 0 = a ∧ S 0 = s ∧ A (o :: l).length = aN ∧ S (o :: l).length = sN ∧ tr.length = (o :: l).length ∧
          ∀ i o', (o :: l)[i]? = some o' → tr[i]? = some (A i, S i, V i) ∧ A (i + 1) = (A i).put o'.dst (V i) ∧ (wantedA ops o' (A i) = true → aop T R o'.op (A i).eval (S i) = some (V i, S (i + 1))) ∧
            (wantedA ops o' (A i) = false → V i = undef ∧ S (i + 1) = S i) ∧ (S i).next ≤ (S (i + 1)).next ∧ (S (i + 1)).lim = (S i).lim := by
      intro v s1 tr' h1 e1 h2 h3 h4 h5
      obtain ⟨A, S, V, g1, g2, g3, g4, g5, g6⟩ := ih _ _ _ _ _ h1
      refine ⟨fun k => match k with | 0 => a | k + 1 => A k, fun k => match k with | 0 => s | k + 1 => S k, fun k => match k with | 0 => v | k + 1 => V k, rfl, rfl, g3, g4, by rw [e1]; simp [g5], fun i o' hi => ?_⟩
      cases i with
      | zero =>
        simp only [List.getElem?_cons_zero, Option.some.injEq] at hi
        subst hi
        refine ⟨by rw [e1]; rfl, g1, fun hw => ?_, fun hw => ?_, ?_, ?_⟩
        · simp only [g2]; exact h2 hw
        · simp only [g2]; exact h3 hw
        · simp only [g2]; exact h4
        · simp only [g2]; exact h5
      | succ i =>
        simp only [List.getElem?_cons_succ] at hi
        obtain ⟨k1, k2⟩ := g6 i o' hi
        exact ⟨by rw [e1]; simpa using k1, k2⟩
    unfold trace at h
    cases hw : wantedA ops o a with
    | false =>
      rw [hw] at h
      simp only [cond_false] at h
      obtain ⟨⟨tr', r⟩, h1, h⟩ := Option.map_eq_some_iff.1 h
      simp only [Prod.mk.injEq] at h
      obtain ⟨rfl, rfl⟩ := h
      exact fin undef s tr' h1 rfl (fun e => by rw [hw] at e; cases e) (fun _ => ⟨rfl, rfl⟩) (Nat.le_refl _) rfl
    | true =>
      rw [hw] at h
      simp only [cond_true] at h
      split at h
      · rename_i v s1 hop
        rw [Bool.cond_eq_ite] at h
        split at h
        · rename_i hc
          rw [Bool.and_eq_true] at hc
          obtain ⟨⟨tr', r⟩, h1, h⟩ := Option.map_eq_some_iff.1 h
          simp only [Prod.mk.injEq] at h
          obtain ⟨rfl, rfl⟩ := h
          exact fin v s1 tr' h1 rfl (fun _ => hop) (fun e => by rw [hw] at e; cases e) (Nat.le_of_ble_eq_true hc.1) (Nat.eq_of_beq_eq_true hc.2).symm
        · cases h
      · cases h

/-! ## Who waits for whom -/
theorem force_eq {α : Type} (n : Nat) (k : Nat → α) : force n k = k n := by cases n <;> rfl

/-- A set of operations that holds those that each of its own waits for. -/
def Closed (ops : Array Oper) (L : Nat → Prop) : Prop := ∀ j o, L j → ops[j]? = some o → ∀ e ∈ o.after, Region.binds .any e = true → L e.on

theorem maskA_bits {acc : List Nat} {o : Oper} {i : Nat} (h : (maskA acc o).testBit i = true) : ∃ e ∈ o.after, Region.binds .any e = true ∧ (e.on = i ∨ (acc.getD e.on 0).testBit i = true) := by
  unfold maskA at h
  have key : ∀ (l : List Edge) (s : Nat), (l.foldl (fun s e => bif Region.binds .any e then Nat.lor (Nat.lor s (2 ^ e.on)) (acc.getD e.on 0) else s) s).testBit i = true →
      s.testBit i = true ∨ ∃ e ∈ l, Region.binds .any e = true ∧ (e.on = i ∨ (acc.getD e.on 0).testBit i = true) := by
    intro l
    induction l with
    | nil => intro s h; exact .inl h
    | cons e l ih =>
      intro s h
      simp only [List.foldl_cons] at h
      rcases ih _ h with h1 | ⟨e', h1, h2⟩
      · cases hb : Region.binds .any e with
        | false => rw [hb] at h1; exact .inl h1
        | true =>
          rw [hb] at h1
          have h1 : ((s ||| 2 ^ e.on) ||| acc.getD e.on 0).testBit i = true := h1
          rw [Nat.testBit_or, Nat.testBit_or, Bool.or_eq_true, Bool.or_eq_true, Nat.testBit_two_pow] at h1
          rcases h1 with (h1 | h1) | h1
          · exact .inl h1
          · exact .inr ⟨e, by simp, hb, .inl (by simpa using h1)⟩
          · exact .inr ⟨e, by simp, hb, .inr h1⟩
      · exact .inr ⟨e', by simp [h1], h2⟩
  rcases key _ 0 h with h1 | ⟨e, h1, h2⟩
  · simp at h1
  · exact ⟨e, by simpa using h1, h2⟩

theorem before_closed {L : Nat → Prop} (hL : Closed ops L) : ∀ (l pre : List Oper) (acc : List Nat), ops.toList = pre ++ l → acc.length = pre.length →
    (∀ j, L j → ∀ i, (acc.getD j 0).testBit i = true → L i) → ∀ j, L j → ∀ i, ((beforeA l acc).getD j 0).testBit i = true → L i := by
  intro l
  induction l with
  | nil => intro pre acc _ _ h; exact h
  | cons o l ih =>
    intro pre acc hops hlen h
    unfold beforeA
    rw [force_eq]
    refine ih (pre ++ [o]) _ (by simp [hops]) (by simp [hlen]) fun j hj i hi => ?_
    rcases Nat.lt_trichotomy j acc.length with hlt | rfl | hgt
    · rw [List.getD_eq_getElem?_getD, List.getElem?_append_left hlt, ← List.getD_eq_getElem?_getD] at hi
      exact h j hj i hi
    · rw [List.getD_eq_getElem?_getD, List.getElem?_append_right (Nat.le_refl _)] at hi
      simp only [Nat.sub_self, List.getElem?_cons_zero, Option.getD_some] at hi
      obtain ⟨e, h1, h2, h3⟩ := maskA_bits hi
      have ho : ops[acc.length]? = some o := by
        rw [← Array.getElem?_toList, hops, hlen, List.getElem?_append_right (Nat.le_refl _)]; simp
      have hle := hL acc.length o hj ho e h1 h2
      rcases h3 with rfl | h3
      · exact hle
      · exact h e.on hle i h3
    · rw [List.getD_eq_getElem?_getD, List.getElem?_append_right (by omega), List.getElem?_cons] at hi
      rw [if_neg (by omega)] at hi
      simp at hi

theorem bit_closed {L : Nat → Prop} (hL : Closed ops L) {j i : Nat} (hj : L j) (h : bit (beforeA ops.toList []) j i = true) : L i :=
  before_closed hL ops.toList [] [] rfl rfl (fun j _ i hi => by simp at hi) j hj i h

structure RegionFacts (T : Tab) (ops : Array Oper) (b : List Nat) : Prop where
  kind : ∀ (i : Nat) (o : Oper), ops[i]? = some o → kindOf T o.op ≠ .bad
  edge : ∀ (i : Nat) (o : Oper), ops[i]? = some o → ∀ e ∈ o.after, Region.binds .any e = true → e.on < i
  tmps : ∀ (i : Nat) (o : Oper) (j : Nat) (p : Oper), ops[i]? = some o → ops[j]? = some p → ∀ d, p.dst = some d → (d ∈ looks ops o ∨ o.dst = some d) → i = j ∨ bit b (max i j) (min i j) = true
  acts : ∀ (i : Nat) (o : Oper) (j : Nat) (p : Oper), ops[i]? = some o → ops[j]? = some p → i < j → kindOf T p.op = .impure → (kindOf T o.op = .impure ∨ kindOf T o.op = .alloc) → bit b j i = true

theorem regionOk_facts (h : regionOk T ops = true) : RegionFacts T ops (beforeA ops.toList []) := by
  unfold regionOk at h
  simp only [List.all_eq_true] at h
  have hm : ∀ i o, ops[i]? = some o → (o, i) ∈ ops.toList.zipIdx := fun i o ho => by
    rw [List.mk_mem_zipIdx_iff_getElem?, Array.getElem?_toList]; exact ho
  refine ⟨fun i o ho => ?_, fun i o ho e he hb => ?_, fun i o j p ho hp d hd hl => ?_, fun i o j p ho hp hij hkp hko => ?_⟩
  · have h1 := h _ (hm i o ho)
    simp only [Bool.and_eq_true] at h1
    simpa using h1.1.1.1
  · have h1 := h _ (hm i o ho)
    simp only [Bool.and_eq_true] at h1
    have h2 := List.all_eq_true.1 h1.1.1.2 e (by simpa using he)
    rw [hb] at h2
    simpa using h2
  · have h1 := h _ (hm i o ho)
    simp only [Bool.and_eq_true] at h1
    have h2 := List.all_eq_true.1 h1.2 _ (hm j p hp)
    simp only [Bool.and_eq_true, hd] at h2
    have h3 := h2.1
    have hc : ((looks ops o).contains d || o.dst == some d) = true := by
      rw [Bool.or_eq_true]
      rcases hl with hl | hl
      · left; simpa using hl
      · right; simpa using hl
    rw [if_pos hc, Bool.or_eq_true] at h3
    rcases h3 with h3 | h3
    · left; simpa using h3
    · right; exact h3
  · have h1 := h _ (hm i o ho)
    simp only [Bool.and_eq_true] at h1
    have h2 := List.all_eq_true.1 h1.2 _ (hm j p hp)
    simp only [Bool.and_eq_true] at h2
    have h3 := h2.2
    rw [if_pos ⟨hij, hkp, hko⟩] at h3
    exact h3

/-! ## Looking at whatever time -/
theorem steadyAt_spec {a : AAct} {o : Oper} {v : Value} {s : AS} (h : steadyAt T R a o v s = true) : ∃ s', aop T R o.op a.eval s = some (v, s') := by
  unfold steadyAt at h
  split at h
  · rename_i u s' e; rw [veq_eq u v h] at e; exact ⟨s', e⟩
  · cases h

theorem steadyGo_spec {at_ : AS → Bool} {b : List Nat} {i : Nat} : ∀ (ms1 ms2 : List (Nat × AS)) (s : AS),
    steadyGo at_ b i (ms1 ++ ms2) s = true → (∀ m ∈ ms1, bit b m.1 i = false) → (∀ m ∈ ms2, bit b i m.1 = false) →
    at_ ((ms1.getLast?.map (·.2)).getD s) = true := by
  intro ms1
  induction ms1 with
  | nil =>
    intro ms2 s h _ h2
    cases ms2 with
    | nil => exact h
    | cons m ms2 =>
      obtain ⟨m, s1⟩ := m
      have hb := h2 (m, s1) (by simp)
      simp only at hb
      simp only [List.nil_append, steadyGo, hb, cond_false, Bool.and_eq_true] at h
      exact h.1
  | cons m ms1 ih =>
    obtain ⟨m, s1⟩ := m
    intro ms2 s h h1 h2
    have hb := h1 (m, s1) (by simp)
    simp only at hb
    have hgo : steadyGo at_ b i (ms1 ++ ms2) s1 = true := by
      simp only [List.cons_append, steadyGo] at h
      cases hbi : bit b i m with
      | true => rw [hbi] at h; exact h
      | false =>
        rw [hbi, cond_false, Bool.and_eq_true] at h
        simpa [hb] using h.2
    have := ih ms2 s1 hgo (fun m hm => h1 m (by simp [hm])) h2
    have e : ((((m, s1) :: ms1).getLast?).map (·.2)).getD s = ((ms1.getLast?).map (·.2)).getD s1 := by
      cases ms1 with
      | nil => rfl
      | cons x l => simp [List.getLast?_cons]
    rw [e]; exact this
end

end Go.AM

namespace Go.AM

def cut (ρ : Env) (k : Nat) : Env := fun id => if id < k then ρ id else none
theorem cut_some {ρ : Env} {k id b : Nat} : cut ρ k id = some b ↔ id < k ∧ ρ id = some b := by
  unfold cut; split
  · rename_i h; exact ⟨fun e => ⟨h, e⟩, fun e => e.2⟩
  · rename_i h; exact ⟨fun e => (by cases e), fun e => absurd e.1 h⟩
theorem cut_sub {ρ ρ' : Env} {k k' : Nat} (h : Sub ρ ρ') (hk : k ≤ k') : Sub (cut ρ k) (cut ρ' k') := fun id b hb => by
  rw [cut_some] at *; exact ⟨by omega, h _ _ hb.2⟩
theorem cut_le {ρ : Env} {k k' : Nat} (hk : k ≤ k') : Sub (cut ρ k) (cut ρ k') := cut_sub (Sub.refl _) hk
theorem cut_self {ρ : Env} {k : Nat} (h : ∀ id, k ≤ id → ρ id = none) : cut ρ k = ρ := by
  funext id; unfold cut; split
  · rfl
  · rw [h id (by omega)]

theorem kind_alloc {T : Tab} {op : Op} (h : kindOf T op = .alloc) : ∃ e, op = .alloc e := by
  cases op with
  | alloc e => exact ⟨e, rfl⟩
  | convert src dst x => simp only [kindOf] at h; split at h <;> cases h
  | call c =>
    obtain ⟨callee, args, ats⟩ := c
    cases callee with
    | builtin b => cases b <;> simp [kindOf] at h
    | _ => simp [kindOf] at h
  | _ => simp [kindOf] at h

/-- What an operation that only makes a block puts there. -/
noncomputable def aoOf (T : Tab) (ops : Array Oper) (j : Nat) : AO :=
  match ops[j]? with
  | some o => match o.op with
    | .alloc e => .cells ((zeroOf T e).getD undef).cells.toList e none
    | _ => .defs true
  | none => .defs true

def imp (T : Tab) (ops : Array Oper) (i : Nat) : Prop := ∃ o, ops[i]? = some o ∧ kindOf T o.op = .impure
def alc (T : Tab) (ops : Array Oper) (A : Nat → AAct) (i : Nat) : Prop := ∃ o, ops[i]? = some o ∧ kindOf T o.op = .alloc ∧ wantedA ops o (A i) = true

section
variable {T : Tab} {P : Program} {R : Rec} {ops : Array Oper} {A : Nat → AAct} {S : Nat → AS} {V : Nat → Value}

theorem lt_of_get {i : Nat} {o : Oper} (h : ops[i]? = some o) : i < ops.size := (Array.getElem?_eq_some_iff.1 h).1

theorem Runs.mono (hR : Runs T R ops A S V) {i j : Nat} (hij : i ≤ j) (hj : j ≤ ops.size) : (S i).next ≤ (S j).next := by
  induction j with
  | zero => have : i = 0 := by omega
            subst this; exact Nat.le_refl _
  | succ j ih =>
    rcases Nat.lt_or_ge i (j + 1) with h | h
    · exact Nat.le_trans (ih (by omega) (by omega)) (hR.next j (by omega))
    · have : i = j + 1 := by omega
      subst this; exact Nat.le_refl _
theorem Runs.limAll (hR : Runs T R ops A S V) {j : Nat} (hj : j ≤ ops.size) : (S j).lim = (S 0).lim := by
  induction j with
  | zero => rfl
  | succ j ih => rw [hR.lim j (by omega), ih (by omega)]

theorem Runs.alloc (hT : T.Ok P) (hR : Runs T R ops A S V) {i : Nat} (h : alc T ops A i) :
    ∃ o e z, ops[i]? = some o ∧ o.op = .alloc e ∧ zeroOf T e = some z ∧ closed z = true ∧ V i = .pointer (some ⟨(S i).next, 0, none⟩) ∧ S (i + 1) = (S i).new (aoOf T ops i) ∧ aoOf T ops i = .cells z.cells.toList e none := by
  obtain ⟨o, ho, hk, hw⟩ := h
  obtain ⟨e, he⟩ := kind_alloc hk
  have h1 := (aop_eq (hR.want i o ho hw)).2
  rw [he] at h1
  simp only [aop0] at h1
  obtain ⟨z, hz, h2⟩ := Option.map_eq_some_iff.1 h1
  simp only [Prod.mk.injEq] at h2
  have hao : aoOf T ops i = .cells z.cells.toList e none := by
    unfold aoOf; simp only [ho, he, hz, Option.getD_some]
  refine ⟨o, e, z, ho, he, hz, (run_zero (w := default) hT hz).2, h2.1.symm, ?_, hao⟩
  rw [hao]; exact h2.2.symm

theorem Runs.quiet (hF : RegionFacts T ops (beforeA ops.toList [])) (hR : Runs T R ops A S V) {i : Nat} {o : Oper} (ho : ops[i]? = some o) (h1 : ¬ imp T ops i) (h2 : ¬ alc T ops A i) : S (i + 1) = S i := by
  cases hw : wantedA ops o (A i) with
  | false => exact (hR.skip i o ho hw).2
  | true =>
    have h3 := (aop_eq (hR.want i o ho hw)).2
    have hk : kindOf T o.op = .pure ∨ kindOf T o.op = .read := by
      have a1 := hF.kind i o ho
      have a2 : kindOf T o.op ≠ .impure := fun e => h1 ⟨o, ho, e⟩
      have a3 : kindOf T o.op ≠ .alloc := fun e => h2 ⟨o, ho, e, hw⟩
      cases hkk : kindOf T o.op <;> simp_all
    exact (looks_op hk h3).1

theorem Runs.stay (hT : T.Ok P) (hF : RegionFacts T ops (beforeA ops.toList [])) (hR : Runs T R ops A S V) {m : Nat} : ∀ (k : Nat), m ≤ k → k ≤ ops.size → (∀ i, m ≤ i → i < k → ¬ imp T ops i) → ∀ id o, (S k).K id o →
    (S m).K id o ∨ ∃ j, m ≤ j ∧ j < k ∧ alc T ops A j ∧ id = (S j).next ∧ o = aoOf T ops j := by
  intro k hmk
  induction k with
  | zero => intro _ _ id o h; have : m = 0 := by omega
            subst this; exact .inl h
  | succ k ih =>
    intro hk hno id o h
    rcases Nat.lt_or_ge k m with hlt | hge
    · have : m = k + 1 := by omega
      subst this; exact .inl h
    · have hks : k < ops.size := by omega
      obtain ⟨op, hop⟩ : ∃ op, ops[k]? = some op := ⟨ops[k], by simp [hks]⟩
      have hni := hno k hge (by omega)
      have lift : (S k).K id o → (S m).K id o ∨ ∃ j, m ≤ j ∧ j < k + 1 ∧ alc T ops A j ∧ id = (S j).next ∧ o = aoOf T ops j := fun h => by
        rcases ih hge (by omega) (fun i h1 h2 => hno i h1 (by omega)) id o h with h | ⟨j, h1, h2, h3⟩
        · exact .inl h
        · exact .inr ⟨j, h1, by omega, h3⟩
      by_cases ha : alc T ops A k
      · obtain ⟨_, _, _, _, _, _, _, _, hs, _⟩ := hR.alloc hT ha
        rw [hs] at h
        rcases Tr.get_set _ _ _ _ _ _ h with ⟨e1, e2⟩ | ⟨_, e2⟩
        · exact .inr ⟨k, hge, by omega, ha, e1, (Option.some.inj e2).symm⟩
        · exact lift e2
      · rw [hR.quiet hF hop hni ha] at h
        exact lift h

theorem Runs.acts (hR : Runs T R ops A S V) : ∀ k, k ≤ ops.size → (A k).tmps.length = (A 0).tmps.length ∧ (A k).defers = (A 0).defers ∧ ∀ d, d < (A 0).tmps.length →
    (∃ i o, i < k ∧ ops[i]? = some o ∧ o.dst = some d ∧ (∀ j p, j < k → ops[j]? = some p → p.dst = some d → j ≤ i) ∧ (A k).tmps[d]? = some (V i)) ∨
    ((∀ j p, j < k → ops[j]? = some p → p.dst ≠ some d) ∧ (A k).tmps[d]? = (A 0).tmps[d]?) := by
  intro k
  induction k with
  | zero => intro _; exact ⟨rfl, rfl, fun d hd => .inr ⟨fun j p h => by omega, rfl⟩⟩
  | succ k ih =>
    intro hk
    obtain ⟨h1, h2, h3⟩ := ih (by omega)
    obtain ⟨o, ho⟩ : ∃ o, ops[k]? = some o := ⟨ops[k]'(by omega), by simp [show k < ops.size by omega]⟩
    have hp := hR.put k o ho
    refine ⟨?_, ?_, fun d hd => ?_⟩
    · rw [hp]; unfold AAct.put; split <;> simp [h1, setN_eq]
    · rw [hp]; unfold AAct.put; split <;> simp [h2]
    · by_cases hdst : o.dst = some d
      · left
        refine ⟨k, o, by omega, ho, hdst, fun j p hj _ _ => by omega, ?_⟩
        rw [hp, hdst]
        simp only [AAct.put, setN_eq, List.getElem?_set, if_true]
        rw [if_pos (by omega)]
      · have hsame : (A (k + 1)).tmps[d]? = (A k).tmps[d]? := by
          rw [hp]; unfold AAct.put
          split
          · rename_i d' e
            have : d' ≠ d := fun h => hdst (by rw [e, h])
            simp [setN_eq, List.getElem?_set, this]
          · rfl
        rcases h3 d hd with ⟨i, p, g1, g2, g3, g4, g5⟩ | ⟨g1, g2⟩
        · refine .inl ⟨i, p, by omega, g2, g3, fun j q hj hq hqd => ?_, by rw [hsame]; exact g5⟩
          rcases Nat.lt_or_ge j k with h | h
          · exact g4 j q h hq hqd
          · have : j = k := by omega
            subst this; rw [ho] at hq; cases hq; exact absurd hqd hdst
        · refine .inr ⟨fun j q hj hq => ?_, by rw [hsame]; exact g2⟩
          rcases Nat.lt_or_ge j k with h | h
          · exact g1 j q h hq
          · have : j = k := by omega
            subst this; rw [ho] at hq; cases hq; exact hdst
end

/-- How things lie while a region is run in whatever order: 'L': what has been run; all that acts below 'm'. -/
structure RI (T : Tab) (N : Nat) (ops : Array Oper) (A : Nat → AAct) (S : Nat → AS) (V : Nat → Value) (ρ0 : Env) (w0 : World) (L : Nat → Prop) (m : Nat) (ρ : Env) (act : Act) (w : World) : Prop where
  closed : Closed ops L
  mle : m ≤ ops.size
  mtop : m = 0 ∨ imp T ops (m - 1)
  mimp : ∀ i, imp T ops i → (L i ↔ i < m)
  malc : ∀ i, i < m → alc T ops A i → L i
  post : Post T N ρ0 (S 0) w0 (cut ρ (S m).next) (S m) w
  dom : ∀ id b, ρ id = some b → id < (S m).next ∨ ∃ j, L j ∧ m ≤ j ∧ alc T ops A j ∧ id = (S j).next
  early : ∀ j, L j → m ≤ j → alc T ops A j → ∃ b ob, ρ (S j).next = some b ∧ w.heap[b]? = some ob ∧ (∀ ρ', OR T ρ' (aoOf T ops j) ob) ∧ N ≤ b ∧ unfrozen ob ∧ w0.heap.size ≤ b ∧ ∀ id o, (S m).K id o → ρ id ≠ some b
  einj : ∀ j j' b, L j → m ≤ j → alc T ops A j → L j' → m ≤ j' → alc T ops A j' → ρ (S j).next = some b → ρ (S j').next = some b → j = j'
  defers : DRL ρ0 (A 0).defers act.defers
  len : act.tmps.size = (A 0).tmps.length
  tmps : ∀ d, d < (A 0).tmps.length →
    (∃ i o v', L i ∧ ops[i]? = some o ∧ o.dst = some d ∧ (∀ j p, L j → ops[j]? = some p → p.dst = some d → j ≤ i) ∧ act.tmps[d]? = some v' ∧ VR (cut ρ (max (S (i + 1)).next (S m).next)) (V i) v') ∨
    ((∀ j p, L j → ops[j]? = some p → p.dst ≠ some d) ∧ ∃ v v', (A 0).tmps[d]? = some v ∧ act.tmps[d]? = some v' ∧ VR (cut ρ (S m).next) v v')

end Go.AM

namespace Go.AM

section
variable {T : Tab} {P : Program} {R : Rec} {N : Nat} {ops : Array Oper} {A : Nat → AAct} {S : Nat → AS} {V : Nat → Value} {ρ0 : Env} {w0 : World} {L : Nat → Prop} {m : Nat} {ρ : Env} {act : Act} {w : World}

theorem alc_lt {i : Nat} (h : alc T ops A i) : i < ops.size := by obtain ⟨o, ho, _⟩ := h; exact lt_of_get ho
theorem imp_lt {i : Nat} (h : imp T ops i) : i < ops.size := by obtain ⟨o, ho, _⟩ := h; exact lt_of_get ho

theorem Runs.allocNext (hT : T.Ok P) (hR : Runs T R ops A S V) {i : Nat} (h : alc T ops A i) : (S (i + 1)).next = (S i).next + 1 := by
  obtain ⟨_, _, _, _, _, _, _, _, hs, _⟩ := hR.alloc hT h
  rw [hs]; rfl

/-- A state is as the region's own run has it, if all that makes it has been run. -/
theorem RI.at (hT : T.Ok P) (hF : RegionFacts T ops (beforeA ops.toList [])) (hR : Runs T R ops A S V) (h : RI T N ops A S V ρ0 w0 L m ρ act w) {k : Nat} (hmk : m ≤ k) (hk : k ≤ ops.size) (hno : ∀ i, m ≤ i → i < k → ¬ imp T ops i) (hal : ∀ i, m ≤ i → i < k → alc T ops A i → L i) :
    Post T N ρ0 (S 0) w0 (cut ρ (S k).next) (S k) w := by
  have hp := h.post
  have hnx := hR.mono hmk hk
  have hst := hR.stay hT hF k hmk hk hno
  have hK : ∀ id o, (S k).K id o → ∃ b ob, ρ id = some b ∧ id < (S k).next ∧ w.heap[b]? = some ob ∧ OR T (cut ρ (S k).next) o ob ∧ ((S k).lim ≤ id → N ≤ b ∧ unfrozen ob) ∧
      ((S m).K id o ∧ id < (S m).next ∨ ∃ j, L j ∧ m ≤ j ∧ alc T ops A j ∧ id = (S j).next ∧ w0.heap.size ≤ b ∧ ∀ id' o', (S m).K id' o' → ρ id' ≠ some b) := by
    intro id o hid
    rcases hst id o hid with h1 | ⟨j, h1, h2, h3, rfl, rfl⟩
    · obtain ⟨b, ob, e1, e2, e3, e4⟩ := hp.hr.k.obj id o h1
      rw [cut_some] at e1
      refine ⟨b, ob, e1.2, by omega, e2, e3.mono (cut_le hnx), fun hl => e4 ?_, .inl ⟨h1, e1.1⟩⟩
      rw [hR.limAll (by omega)] at hl ⊢; exact hl
    · obtain ⟨b, ob, e1, e2, e3, e4, e5, e6, e7⟩ := h.early j (hal j h1 h2 h3) h1 h3
      refine ⟨b, ob, e1, ?_, e2, e3 _, fun _ => ⟨e4, e5⟩, .inr ⟨j, hal j h1 h2 h3, h1, h3, rfl, e6, e7⟩⟩
      have a1 := hR.allocNext hT h3
      have a2 := hR.mono (i := j + 1) (j := k) (by omega) hk
      omega
  have hinj : ∀ id id' o o' b, (S k).K id o → (S k).K id' o' → ρ id = some b → ρ id' = some b → id = id' := by
    intro id id' o o' b h1 h2 e1 e2
    obtain ⟨b1, _, f1, _, _, _, _, g1⟩ := hK id o h1
    obtain ⟨b2, _, f2, _, _, _, _, g2⟩ := hK id' o' h2
    rw [e1] at f1; cases f1
    rw [e2] at f2; cases f2
    rcases g1 with ⟨g1, l1⟩ | ⟨j, j1, j2, j3, rfl, _, j4⟩
    · rcases g2 with ⟨g2, l2⟩ | ⟨j', j1', j2', j3', rfl, _, j4'⟩
      · exact hp.hr.k.inj id id' o o' b g1 g2 (cut_some.2 ⟨l1, e1⟩) (cut_some.2 ⟨l2, e2⟩)
      · exact absurd e1 (j4' id o g1)
    · rcases g2 with ⟨g2, l2⟩ | ⟨j', j1', j2', j3', rfl, _, j4'⟩
      · exact absurd e2 (j4 id' o' g2)
      · rw [h.einj j j' b j1 j2 j3 j1' j2' j3' e1 e2]
  refine { hr := ⟨⟨fun id o hid => ?_, fun id id' o o' b h1 h2 e1 e2 => ?_, hp.hr.k.size⟩, fun id hid => ?_, fun g hg => ?_⟩, sub := hp.sub.trans (cut_le hnx), lim := hR.limAll hk, next := hR.mono (Nat.zero_le _) hk, own := fun id o b hl hid hb => ?_, seen := fun id o b hid hb => ?_, frame := hp.frame, size := hp.size, env := hp.env }
  · obtain ⟨b, ob, f1, f2, f3, f4, f5, _⟩ := hK id o hid
    exact ⟨b, ob, cut_some.2 ⟨f2, f1⟩, f3, f4, f5⟩
  · exact hinj id id' o o' b h1 h2 (cut_some.1 e1).2 (cut_some.1 e2).2
  · unfold cut; rw [if_neg (by omega)]
  · exact cut_le hnx _ _ (hp.hr.glob g hg)
  · obtain ⟨b1, _, f1, _, _, _, _, g1⟩ := hK id o hid
    rw [cut_some] at hb
    rw [hb.2] at f1; cases f1
    rcases g1 with ⟨g1, l1⟩ | ⟨j, _, _, _, _, g2, _⟩
    · refine hp.own id o b ?_ g1 (cut_some.2 ⟨l1, hb.2⟩)
      rw [hR.limAll h.mle]; rw [hR.limAll hk] at hl; exact hl
    · exact .inl g2
  · obtain ⟨b1, _, f1, _, _, _, _, g1⟩ := hK id o hid
    rw [cut_some] at hb
    rw [hb.2] at f1; cases f1
    rcases g1 with ⟨g1, l1⟩ | ⟨j, _, _, _, _, g2, _⟩
    · exact hp.seen id o b g1 (cut_some.2 ⟨l1, hb.2⟩)
    · exact .inl g2

/-- Who may write, who may look: behind what has been run. -/
theorem ready_closed {i : Nat} {o : Oper} (hc : Closed ops L) (ho : ops[i]? = some o) (hpre : ∀ e ∈ o.after, Region.binds .any e = true → L e.on) : Closed ops (fun j => L j ∨ j = i) := by
  intro j p hj hp e he hb
  rcases hj with hj | rfl
  · exact .inl (hc j p hj hp e he hb)
  · rw [ho] at hp; cases hp; exact .inl (hpre e he hb)

theorem writers (hF : RegionFacts T ops (beforeA ops.toList [])) {i : Nat} {o : Oper} (hc : Closed ops L) (ho : ops[i]? = some o) (hi : ¬ L i) (hpre : ∀ e ∈ o.after, Region.binds .any e = true → L e.on) {d : Tmp} (hd : d ∈ looks ops o ∨ o.dst = some d) {j : Nat} {p : Oper} (hp : ops[j]? = some p) (hpd : p.dst = some d) :
    L j ↔ j < i := by
  rcases hF.tmps i o j p ho hp d hpd hd with rfl | hb
  · exact ⟨fun h => absurd h hi, fun h => by omega⟩
  · constructor
    · intro hj
      rcases Nat.lt_trichotomy j i with h | h | h
      · exact h
      · subst h; exact absurd hj hi
      · rw [Nat.max_eq_right (by omega), Nat.min_eq_left (by omega)] at hb
        exact absurd (bit_closed hc hj hb) hi
    · intro hj
      rw [Nat.max_eq_left (by omega), Nat.min_eq_right (by omega)] at hb
      rcases bit_closed (ready_closed hc ho hpre) (.inr rfl) hb with h | h
      · exact h
      · omega

/-- What a temporary holds that is looked at. -/
theorem RI.tmp (hF : RegionFacts T ops (beforeA ops.toList [])) (hR : Runs T R ops A S V) (h : RI T N ops A S V ρ0 w0 L m ρ act w) {i : Nat} {o : Oper} (ho : ops[i]? = some o) (hi : ¬ L i) (hpre : ∀ e ∈ o.after, Region.binds .any e = true → L e.on) {d : Tmp} (hd : d ∈ looks ops o) :
    (∀ v, (A i).tmps[d]? = some v → ∃ v', act.tmps[d]? = some v' ∧ VR (cut ρ (max (S i).next (S m).next)) v v') ∧ ((A i).tmps[d]? = none → act.tmps[d]? = none) := by
  have hlt := lt_of_get ho
  obtain ⟨a1, a2, a3⟩ := hR.acts i (by omega)
  rcases Nat.lt_or_ge d (A 0).tmps.length with hdl | hdl
  · have hw := fun {j : Nat} {p : Oper} => writers hF h.closed ho hi hpre (d := d) (.inl hd) (j := j) (p := p)
    have : ∃ v v', (A i).tmps[d]? = some v ∧ act.tmps[d]? = some v' ∧ VR (cut ρ (max (S i).next (S m).next)) v v' := by
      rcases a3 d hdl with ⟨j, p, b1, b2, b3, b4, b5⟩ | ⟨b1, b2⟩
      · rcases h.tmps d hdl with ⟨j', p', v', c1, c2, c3, c4, c5, c6⟩ | ⟨c1, _⟩
        · have e1 : j ≤ j' := c4 j p ((hw b2 b3).2 b1) b2 b3
          have e2 : j' ≤ j := b4 j' p' ((hw c2 c3).1 c1) c2 c3
          have : j' = j := by omega
          subst this
          refine ⟨_, v', b5, c5, VR.mono (cut_le ?_) _ c6⟩
          have := hR.mono (i := j' + 1) (j := i) (by omega) (by omega)
          omega
        · exact absurd b3 (c1 j p ((hw b2 b3).2 b1) b2)
      · rcases h.tmps d hdl with ⟨j', p', v', c1, c2, c3, c4, c5, c6⟩ | ⟨c1, v, v', c2, c3, c4⟩
        · exact absurd c3 (b1 j' p' ((hw c2 c3).1 c1) c2)
        · exact ⟨v, v', by rw [b2]; exact c2, c3, VR.mono (cut_le (by omega)) _ c4⟩
    obtain ⟨v, v', e1, e2, e3⟩ := this
    refine ⟨fun u hu => ?_, fun hn => by rw [e1] at hn; cases hn⟩
    rw [e1] at hu; cases hu
    exact ⟨v', e2, e3⟩
  · have h1 : (A i).tmps[d]? = none := List.getElem?_eq_none (by omega)
    have h2 : act.tmps[d]? = none := Array.getElem?_eq_none (by rw [h.len]; omega)
    exact ⟨fun v hv => (by rw [h1] at hv; cases hv), fun _ => h2⟩

theorem RI.ev (hF : RegionFacts T ops (beforeA ops.toList [])) (hR : Runs T R ops A S V) (h : RI T N ops A S V ρ0 w0 L m ρ act w) {i : Nat} {o : Oper} (ho : ops[i]? = some o) (hi : ¬ L i) (hpre : ∀ e ∈ o.after, Region.binds .any e = true → L e.on) (hcl : opClosed T o.op = true) :
    EvR (cut ρ (max (S i).next (S m).next)) o.op (A i).eval act.eval := by
  intro x hx
  have hxc := List.all_eq_true.1 hcl x hx
  cases x with
  | tmp t =>
    have ht : t ∈ looks ops o := List.mem_append_left _ (List.mem_filterMap.2 ⟨.tmp t, hx, rfl⟩)
    obtain ⟨h1, h2⟩ := h.tmp hF hR ho hi hpre ht
    simp only [AAct.eval, Act.eval, getN_eq]
    cases hv : (A i).tmps[t]? with
    | none =>
      have := h2 hv
      rw [List.getD_eq_getElem?_getD, hv, Array.getD_eq_getD_getElem?, this]
      exact VR.undef
    | some v =>
      obtain ⟨v', g1, g2⟩ := h1 v hv
      rw [List.getD_eq_getElem?_getD, hv, Array.getD_eq_getD_getElem?, g1]
      exact g2
  | const v => exact VR.closed hxc
  | global g => exact ⟨g, cut_le (by omega) _ _ (h.post.hr.glob g (Nat.le_of_ble_eq_true hxc)), rfl⟩
  | func f => exact ⟨_, [], [], rfl, rfl, rfl, rfl⟩

theorem bool_rel {ρ : Env} {x y : Value} (h : VR ρ x y) : (match some x with | some (.bool b) => some b | _ => none) = (match some y with | some (.bool b) => some b | _ => none) := by
  by_cases hb : ∃ b, x = .bool b
  · obtain ⟨b, rfl⟩ := hb
    cases h
    rfl
  · have hb' : ∀ b, y ≠ .bool b := fun b e => hb ⟨b, h.kind.2.2.2.2.2.2 b e⟩
    have e1 : ∀ z : Value, (∀ b, z ≠ .bool b) → (match some z with | some (.bool b) => some b | _ => none) = none := by
      intro z hz
      split
      · rename_i b e; cases e; exact absurd rfl (hz b)
      · rfl
    exact (e1 x (fun b e => hb ⟨b, e⟩)).trans (e1 y hb').symm

theorem RI.want (hF : RegionFacts T ops (beforeA ops.toList [])) (hR : Runs T R ops A S V) (h : RI T N ops A S V ρ0 w0 L m ρ act w) {i : Nat} {o : Oper} (ho : ops[i]? = some o) (hi : ¬ L i) (hpre : ∀ e ∈ o.after, Region.binds .any e = true → L e.on) :
    Region.wanted o (yielded ops act.tmps) = wantedA ops o (A i) := by
  unfold wantedA Region.wanted
  cases hg : o.guard with
  | none => rfl
  | some x =>
    obtain ⟨g, b⟩ := x
    simp only
    congr 1
    unfold yieldedA yielded
    cases hd : (ops[g]?).bind (·.dst) with
    | none => rfl
    | some d =>
      have hl : d ∈ looks ops o := List.mem_append_right _ (by rw [hg]; simp only [hd]; simp)
      obtain ⟨h1, h2⟩ := h.tmp hF hR ho hi hpre hl
      simp only [Option.bind_some]
      cases hv : (A i).tmps[d]? with
      | none => rw [h2 hv]
      | some v =>
        obtain ⟨v', g1, g2⟩ := h1 v hv
        rw [g1]
        exact (bool_rel g2).symm
end

end Go.AM

namespace Go.AM

section
variable {T : Tab} {P : Program} {R : Rec} {N : Nat} {ops : Array Oper} {A : Nat → AAct} {S : Nat → AS} {V : Nat → Value} {ρ0 : Env} {w0 : World} {L : Nat → Prop} {m : Nat} {ρ : Env} {act : Act} {w : World}

theorem put_len (act : Act) (dst : Option Tmp) (v : Value) : (act.put dst v).tmps.size = act.tmps.size := by
  unfold Act.put; split <;> simp
theorem put_defers (act : Act) (dst : Option Tmp) (v : Value) : (act.put dst v).defers = act.defers := by
  unfold Act.put; split <;> rfl

/-- The temporaries behind an operation. -/
theorem RI.tmps' (hF : RegionFacts T ops (beforeA ops.toList [])) (hR : Runs T R ops A S V) (h : RI T N ops A S V ρ0 w0 L m ρ act w) {i : Nat} {o : Oper} (ho : ops[i]? = some o) (hi : ¬ L i) (hpre : ∀ e ∈ o.after, Region.binds .any e = true → L e.on)
    {m' : Nat} {ρ' : Env} (hs : Sub ρ ρ') (hm : (S m).next ≤ (S m').next) {v' : Value} (hv : VR (cut ρ' (max (S (i + 1)).next (S m').next)) (V i) v') :
    ∀ d, d < (A 0).tmps.length →
    (∃ i' o' v'', (L i' ∨ i' = i) ∧ ops[i']? = some o' ∧ o'.dst = some d ∧ (∀ j p, (L j ∨ j = i) → ops[j]? = some p → p.dst = some d → j ≤ i') ∧ (act.put o.dst v').tmps[d]? = some v'' ∧ VR (cut ρ' (max (S (i' + 1)).next (S m').next)) (V i') v'') ∨
    ((∀ j p, (L j ∨ j = i) → ops[j]? = some p → p.dst ≠ some d) ∧ ∃ v v'', (A 0).tmps[d]? = some v ∧ (act.put o.dst v').tmps[d]? = some v'' ∧ VR (cut ρ' (S m').next) v v'') := by
  intro d hd
  by_cases hdst : o.dst = some d
  · left
    refine ⟨i, o, v', .inr rfl, ho, hdst, fun j p hj hp hpd => ?_, ?_, hv⟩
    · rcases hj with hj | rfl
      · have := (writers hF h.closed ho hi hpre (.inr hdst) hp hpd).1 hj; omega
      · exact Nat.le_refl _
    · rw [hdst]
      have : d < act.tmps.size := by rw [h.len]; exact hd
      simp [Act.put, Array.getElem?_setIfInBounds, this]
  · have hsame : (act.put o.dst v').tmps[d]? = act.tmps[d]? := by
      unfold Act.put
      split
      · rename_i d' e
        have : d' ≠ d := fun h => hdst (by rw [e, h])
        simp [Array.getElem?_setIfInBounds, this]
      · rfl
    rw [hsame]
    rcases h.tmps d hd with ⟨i', o', v'', g1, g2, g3, g4, g5, g6⟩ | ⟨g1, v, v'', g2, g3, g4⟩
    · refine .inl ⟨i', o', v'', .inl g1, g2, g3, fun j p hj hp hpd => ?_, g5, VR.mono (cut_sub hs (by omega)) _ g6⟩
      rcases hj with hj | rfl
      · exact g4 j p hj hp hpd
      · rw [ho] at hp; cases hp; exact absurd hpd hdst
    · refine .inr ⟨fun j p hj hp hpd => ?_, v, v'', g2, g3, VR.mono (cut_sub hs hm) _ g4⟩
      rcases hj with hj | rfl
      · exact g1 j p hj hp hpd
      · rw [ho] at hp; cases hp; exact absurd hpd hdst

/-- An operation that neither acts nor makes a block. -/
theorem RI.look (hF : RegionFacts T ops (beforeA ops.toList [])) (hR : Runs T R ops A S V) (h : RI T N ops A S V ρ0 w0 L m ρ act w) {i : Nat} {o : Oper} (ho : ops[i]? = some o) (hi : ¬ L i) (hpre : ∀ e ∈ o.after, Region.binds .any e = true → L e.on)
    (hni : ¬ imp T ops i) (hna : ¬ alc T ops A i) {v' : Value} (hv : VR (cut ρ (max (S (i + 1)).next (S m).next)) (V i) v') :
    RI T N ops A S V ρ0 w0 (fun j => L j ∨ j = i) m ρ (act.put o.dst v') w where
  closed := ready_closed h.closed ho hpre
  mle := h.mle
  mtop := h.mtop
  mimp := fun j hj => by
    rw [← h.mimp j hj]
    exact ⟨fun hh => hh.resolve_right (fun e => hni (e ▸ hj)), .inl⟩
  malc := fun j hj ha => .inl (h.malc j hj ha)
  post := h.post
  dom := fun id b hb => by
    rcases h.dom id b hb with h1 | ⟨j, h1, h2⟩
    · exact .inl h1
    · exact .inr ⟨j, .inl h1, h2⟩
  early := fun j hj hm ha => h.early j (hj.resolve_right (fun e => hna (e ▸ ha))) hm ha
  einj := fun j j' b hj h1 h2 hj' h3 h4 => h.einj j j' b (hj.resolve_right (fun e => hna (e ▸ h2))) h1 h2 (hj'.resolve_right (fun e => hna (e ▸ h4))) h3 h4
  defers := by rw [put_defers]; exact h.defers
  len := by rw [put_len]; exact h.len
  tmps := h.tmps' hF hR ho hi hpre (Sub.refl _) (Nat.le_refl _) hv

theorem alc_imp {i : Nat} (ha : alc T ops A i) (hi : imp T ops i) : False := by
  obtain ⟨o, h1, h2, _⟩ := ha
  obtain ⟨p, h3, h4⟩ := hi
  rw [h1] at h3; cases h3
  rw [h2] at h4; cases h4

/-- Who acts waits for all before it that act or make a block. -/
theorem RI.wait (hF : RegionFacts T ops (beforeA ops.toList [])) (h : RI T N ops A S V ρ0 w0 L m ρ act w) {i : Nat} {o : Oper} (ho : ops[i]? = some o) (hpre : ∀ e ∈ o.after, Region.binds .any e = true → L e.on) (hI : imp T ops i) {j : Nat} (hj : j < i)
    (hk : imp T ops j ∨ alc T ops A j) : L j := by
  obtain ⟨p, hp, hpk⟩ := hI
  have : ∃ q, ops[j]? = some q ∧ (kindOf T q.op = .impure ∨ kindOf T q.op = .alloc) := by
    rcases hk with ⟨q, h1, h2⟩ | ⟨q, h1, h2, _⟩
    · exact ⟨q, h1, .inl h2⟩
    · exact ⟨q, h1, .inr h2⟩
  obtain ⟨q, hq, hqk⟩ := this
  have hb := hF.acts j q i p hq hp hj hpk hqk
  rcases bit_closed (ready_closed h.closed ho hpre) (.inr rfl) hb with h1 | h1
  · exact h1
  · omega

theorem RI.below (h : RI T N ops A S V ρ0 w0 L m ρ act w) {i : Nat} (hi : ¬ L i) (hk : imp T ops i ∨ alc T ops A i) : m ≤ i := by
  rcases Nat.lt_or_ge i m with hlt | hge
  · rcases hk with hk | hk
    · exact absurd ((h.mimp i hk).2 hlt) hi
    · exact absurd (h.malc i hlt hk) hi
  · exact hge

/-- An operation that acts: what lies when it is its turn. -/
theorem RI.turn (hT : T.Ok P) (hF : RegionFacts T ops (beforeA ops.toList [])) (hR : Runs T R ops A S V) (h : RI T N ops A S V ρ0 w0 L m ρ act w) {i : Nat} {o : Oper} (ho : ops[i]? = some o) (hi : ¬ L i) (hpre : ∀ e ∈ o.after, Region.binds .any e = true → L e.on) (hI : imp T ops i) :
    (∀ j, m ≤ j → j < i → ¬ imp T ops j) ∧ Post T N ρ0 (S 0) w0 (cut ρ (S i).next) (S i) w := by
  have hmi := h.below hi (.inl hI)
  have hno : ∀ j, m ≤ j → j < i → ¬ imp T ops j := fun j h1 h2 hj => by
    have := (h.mimp j hj).1 (h.wait hF ho hpre hI h2 (.inl hj)); omega
  exact ⟨hno, h.at hT hF hR hmi (Nat.le_of_lt (imp_lt hI)) hno (fun j _ h2 ha => h.wait hF ho hpre hI h2 (.inr ha))⟩

theorem RI.acts (hT : T.Ok P) (hF : RegionFacts T ops (beforeA ops.toList [])) (hR : Runs T R ops A S V) (h : RI T N ops A S V ρ0 w0 L m ρ act w) {i : Nat} {o : Oper} (ho : ops[i]? = some o) (hi : ¬ L i) (hpre : ∀ e ∈ o.after, Region.binds .any e = true → L e.on) (hI : imp T ops i)
    {ρ'' : Env} {w' : World} {v' : Value} (hop : Post T N (cut ρ (S i).next) (S i) w ρ'' (S (i + 1)) w') (hv : VR ρ'' (V i) v') :
    RI T N ops A S V ρ0 w0 (fun j => L j ∨ j = i) (i + 1) (fun id => if id < (S (i + 1)).next then ρ'' id else ρ id) (act.put o.dst v') w' := by
  obtain ⟨hno, hat⟩ := h.turn hT hF hR ho hi hpre hI
  have hmi := h.below hi (.inl hI)
  have hil := imp_lt hI
  have hcut : cut (fun id => if id < (S (i + 1)).next then ρ'' id else ρ id) (S (i + 1)).next = ρ'' := by
    funext id
    unfold cut
    split
    · rename_i hlt; simp only [hlt, if_true]
    · rename_i hlt; exact (hop.hr.fresh id (by omega)).symm
  have hbig : ∀ j, alc T ops A j → i + 1 ≤ j → (S (i + 1)).next ≤ (S j).next := fun j ha hj => hR.mono hj (Nat.le_of_lt (alc_lt ha))
  have hsmall : ∀ j, alc T ops A j → j < i → (S j).next < (S i).next := fun j ha hj => by
    have a1 := hR.allocNext hT ha
    have a2 := hR.mono (i := j + 1) (j := i) (by omega) (by omega)
    omega
  have hnew : ∀ j, alc T ops A j → i + 1 ≤ j → (if (S j).next < (S (i + 1)).next then ρ'' (S j).next else ρ (S j).next) = ρ (S j).next := fun j ha hj => by
    rw [if_neg (by have := hbig j ha hj; omega)]
  have hsub : Sub ρ (fun id => if id < (S (i + 1)).next then ρ'' id else ρ id) := by
    intro id b hb
    show (if id < (S (i + 1)).next then ρ'' id else ρ id) = some b
    by_cases hlt : id < (S (i + 1)).next
    · rw [if_pos hlt]
      refine hop.sub id b (cut_some.2 ⟨?_, hb⟩)
      rcases h.dom id b hb with h1 | ⟨j, h1, h2, h3, rfl⟩
      · have := hR.mono hmi (Nat.le_of_lt hil); omega
      · rcases Nat.lt_trichotomy j i with hj | hj | hj
        · exact hsmall j h3 hj
        · subst hj; exact absurd h1 hi
        · have := hbig j h3 hj; omega
    · rw [if_neg hlt]; exact hb
  have hearlyL : ∀ j, (L j ∨ j = i) → alc T ops A j → L j := fun j hj ha => hj.resolve_right (fun e => alc_imp ha (e ▸ hI))
  refine { closed := ready_closed h.closed ho hpre, mle := hil, mtop := .inr hI, mimp := fun j hj => ⟨fun hh => ?_, fun hh => ?_⟩, malc := fun j hj ha => ?_, post := ?_, dom := fun id b hb => ?_, early := fun j hj hm ha => ?_, einj := fun j j' b hj h1 h2 hj' h3 h4 e1 e2 => ?_, defers := by rw [put_defers]; exact h.defers, len := by rw [put_len]; exact h.len, tmps := ?_ }
  · rcases hh with hh | rfl
    · have := (h.mimp j hj).1 hh; omega
    · omega
  · rcases Nat.lt_or_ge j i with h1 | h1
    · exact .inl (h.wait hF ho hpre hI h1 (.inl hj))
    · exact .inr (by omega)
  · rcases Nat.lt_or_ge j i with h1 | h1
    · exact .inl (h.wait hF ho hpre hI h1 (.inr ha))
    · exact .inr (by omega)
  · rw [hcut]; exact hat.trans hop
  · by_cases hlt : id < (S (i + 1)).next
    · exact .inl hlt
    · simp only [hlt, if_false] at hb
      rcases h.dom id b hb with h1 | ⟨j, h1, h2, h3, rfl⟩
      · have := hR.mono (i := m) (j := i + 1) (by omega) hil; omega
      · rcases Nat.lt_or_ge j (i + 1) with hj | hj
        · have a1 := hR.allocNext hT h3
          have a2 := hR.mono (i := j + 1) (j := i + 1) (by omega) hil
          omega
        · exact .inr ⟨j, .inl h1, hj, h3, rfl⟩
  · have hL := hearlyL j hj ha
    obtain ⟨b, ob, e1, e2, e3, e4, e5, e6, e7⟩ := h.early j hL (by omega) ha
    have hbl : b < w.heap.size := by
      rcases Nat.lt_or_ge b w.heap.size with h | h
      · exact h
      · rw [Array.getElem?_eq_none h] at e2; cases e2
    have hne : ∀ id o, (S i).K id o → ρ id ≠ some b := fun id o hid hb => by
      rcases hR.stay hT hF i hmi (Nat.le_of_lt hil) hno id o hid with h1 | ⟨j', h1, h2, h3, rfl, rfl⟩
      · exact e7 id o h1 hb
      · have := h.einj j j' b hL (by omega) ha (h.wait hF ho hpre hI h2 (.inr h3)) h1 h3 e1 hb
        omega
    refine ⟨b, ob, (hnew j ha hm).trans e1, ?_, e3, e4, e5, e6, fun id o hid hb => ?_⟩
    · rw [hop.frame b hbl (fun id o _ hid hb => hne id o hid (cut_some.1 hb).2)]; exact e2
    · obtain ⟨b', _, f1, _⟩ := hop.hr.k.obj id o hid
      have hidl := hop.hr.idLt f1
      simp only [hidl, if_true] at hb
      rcases hop.seen id o b hid hb with g1 | ⟨id0, o0, g1, g2⟩
      · omega
      · exact hne id0 o0 g1 (cut_some.1 g2).2
  · have e1 := (hnew j h2 h1).symm.trans e1
    have e2 := (hnew j' h4 h3).symm.trans e2
    exact h.einj j j' b (hearlyL j hj h2) (by omega) h2 (hearlyL j' hj' h4) (by omega) h4 e1 e2
  · refine h.tmps' hF hR ho hi hpre hsub (hR.mono (by omega) hil) ?_
    rw [Nat.max_self, hcut]; exact hv

theorem HR.foreign {s : AS} (hr : HR T ρ N s w) (ob : Obj) (w' : World) (hw : w'.heap = w.heap.push ob) (env : Same w w') : Post T N ρ s w ρ s w' where
  hr := ⟨⟨fun id o hk => by
    obtain ⟨b, ob', e1, e2, e3⟩ := hr.k.obj id o hk
    have := hr.lt hk e1
    exact ⟨b, ob', e1, by rw [hw, Array.getElem?_push, if_neg (by omega)]; exact e2, e3⟩, hr.k.inj, by rw [hw]; simp; have := hr.k.size; omega⟩, hr.fresh, hr.glob⟩
  sub := Sub.refl _
  lim := rfl
  next := Nat.le_refl _
  own := fun id o b h1 h2 h3 => .inr ⟨id, o, h1, h2, h3⟩
  seen := fun id o b h2 h3 => .inr ⟨id, o, h2, h3⟩
  frame := fun b hb _ => by rw [hw, Array.getElem?_push, if_neg (by omega)]
  size := by rw [hw]; simp
  env := env

/-- An operation that only makes a block. -/
theorem RI.makes (hT : T.Ok P) (hF : RegionFacts T ops (beforeA ops.toList [])) (hR : Runs T R ops A S V) (h : RI T N ops A S V ρ0 w0 L m ρ act w) {i : Nat} {o : Oper} (ho : ops[i]? = some o) (hi : ¬ L i) (hpre : ∀ e ∈ o.after, Region.binds .any e = true → L e.on) (hA : alc T ops A i)
    {ob : Obj} {w' : World} (hob : ∀ ρ', OR T ρ' (aoOf T ops i) ob) (hun : unfrozen ob) (hw : w'.heap = w.heap.push ob) (env : Same w w') :
    RI T N ops A S V ρ0 w0 (fun j => L j ∨ j = i) m (upd ρ (S i).next w.heap.size) (act.put o.dst (.pointer (some ⟨w.heap.size, 0, none⟩))) w' := by
  have hmi := h.below hi (.inr hA)
  have hil := alc_lt hA
  have hmn := hR.mono hmi (Nat.le_of_lt hil)
  have hne : ∀ j, L j → alc T ops A j → (S j).next ≠ (S i).next := fun j hj ha e => by
    rcases Nat.lt_trichotomy j i with h1 | h1 | h1
    · have a1 := hR.allocNext hT ha
      have a2 := hR.mono (i := j + 1) (j := i) (by omega) (by omega)
      omega
    · subst h1; exact hi hj
    · have a1 := hR.allocNext hT hA
      have a2 := hR.mono (i := i + 1) (j := j) (by omega) (Nat.le_of_lt (alc_lt ha))
      omega
  have hnone : ρ (S i).next = none := by
    cases hx : ρ (S i).next with
    | none => rfl
    | some b =>
      rcases h.dom _ b hx with h1 | ⟨j, h1, h2, h3, e⟩
      · omega
      · exact absurd e.symm (hne j h1 h3)
  have hsub : Sub ρ (upd ρ (S i).next w.heap.size) := sub_upd hnone
  have hcut : cut (upd ρ (S i).next w.heap.size) (S m).next = cut ρ (S m).next := by
    funext id
    unfold cut
    split
    · rw [upd_other (by omega)]
    · rfl
  have hni : ¬ imp T ops i := fun hI => alc_imp hA hI
  obtain ⟨o', e, z, ho', _, _, _, hV, hS, _⟩ := hR.alloc hT hA
  refine { closed := ready_closed h.closed ho hpre, mle := h.mle, mtop := h.mtop, mimp := fun j hj => ?_, malc := fun j hj ha => .inl (h.malc j hj ha), post := ?_, dom := fun id b hb => ?_, early := fun j hj hm ha => ?_, einj := fun j j' b hj h1 h2 hj' h3 h4 e1 e2 => ?_, defers := by rw [put_defers]; exact h.defers, len := by rw [put_len]; exact h.len, tmps := ?_ }
  · rw [← h.mimp j hj]
    exact ⟨fun hh => hh.resolve_right (fun e => hni (e ▸ hj)), .inl⟩
  · rw [hcut]; exact h.post.trans (h.post.hr.foreign ob w' hw env)
  · by_cases hid : id = (S i).next
    · exact .inr ⟨i, .inr rfl, hmi, hA, hid⟩
    · rw [upd_other hid] at hb
      rcases h.dom id b hb with h1 | ⟨j, h1, h2⟩
      · exact .inl h1
      · exact .inr ⟨j, .inl h1, h2⟩
  · rcases hj with hj | rfl
    · obtain ⟨b, ob', e1, e2, e3, e4, e5, e6, e7⟩ := h.early j hj hm ha
      have hbl : b < w.heap.size := by
        rcases Nat.lt_or_ge b w.heap.size with h | h
        · exact h
        · rw [Array.getElem?_eq_none h] at e2; cases e2
      refine ⟨b, ob', by rw [upd_other (hne j hj ha)]; exact e1, by rw [hw, Array.getElem?_push, if_neg (by omega)]; exact e2, e3, e4, e5, e6, fun id o hid hb => ?_⟩
      by_cases hidi : id = (S i).next
      · rw [hidi, upd_self] at hb; have := Option.some.inj hb; omega
      · rw [upd_other hidi] at hb; exact e7 id o hid hb
    · refine ⟨w.heap.size, ob, upd_self, by rw [hw]; simp, hob, h.post.hr.k.size, hun, h.post.size, fun id o hid hb => ?_⟩
      obtain ⟨b', _, f1, _⟩ := h.post.hr.k.obj id o hid
      have hlt := h.post.hr.lt hid f1
      rw [cut_some] at f1
      rw [upd_other (by omega)] at hb
      rw [f1.2] at hb; have := Option.some.inj hb; omega
  · have hblk : ∀ j, L j → m ≤ j → alc T ops A j → ρ (S j).next = some w.heap.size → False := fun j g1 g2 g3 g4 => by
      obtain ⟨b, ob', f1, f2, _⟩ := h.early j g1 g2 g3
      rw [g4] at f1; cases f1
      rw [Array.getElem?_eq_none (Nat.le_refl _)] at f2; cases f2
    rcases hj with hj | rfl
    · rw [upd_other (hne j hj h2)] at e1
      rcases hj' with hj' | rfl
      · rw [upd_other (hne j' hj' h4)] at e2
        exact h.einj j j' b hj h1 h2 hj' h3 h4 e1 e2
      · rw [upd_self] at e2; cases e2
        exact (hblk j hj h1 h2 e1).elim
    · rcases hj' with hj' | rfl
      · rw [upd_other (hne j' hj' h4)] at e2
        rw [upd_self] at e1; cases e1
        exact (hblk j' hj' h3 h4 e2).elim
      · rfl
  · refine h.tmps' hF hR ho hi hpre hsub (Nat.le_refl _) ?_
    rw [hV]
    refine ⟨w.heap.size, cut_some.2 ⟨?_, upd_self⟩, rfl⟩
    have := hR.allocNext hT hA
    show (S i).next < _
    omega
end

end Go.AM

namespace Go.AM

section
variable {T : Tab} {P : Program} {R : Rec} {N : Nat} {ops : Array Oper} {A : Nat → AAct} {S : Nat → AS} {V : Nat → Value} {ρ0 : Env} {w0 : World} {L : Nat → Prop} {m : Nat} {ρ : Env} {act : Act} {w : World}

/-- What is read is the same at whatever time. -/
def Steady (T : Tab) (R : Rec) (ops : Array Oper) (A : Nat → AAct) (S : Nat → AS) (V : Nat → Value) : Prop :=
  ∀ i o m, ops[i]? = some o → kindOf T o.op = .read → wantedA ops o (A i) = true → m ≤ ops.size → (m = 0 ∨ imp T ops (m - 1)) →
    (∀ j, j < m → imp T ops j → bit (beforeA ops.toList []) j i = false) → (∀ j, m ≤ j → imp T ops j → bit (beforeA ops.toList []) i j = false) →
    ∃ s', aop T R o.op (A i).eval (S m) = some (V i, s')

theorem HR.ahead {s : AS} {k k' : Nat} (hr : HR T (cut ρ k') N s w) (hs : s.next = k') (hk : k' ≤ k) : HR T (cut ρ k) N { s with next := k } w where
  k := ⟨fun id o hid => by
      obtain ⟨b, ob, e1, e2, e3, e4⟩ := hr.k.obj id o hid
      exact ⟨b, ob, cut_le hk _ _ e1, e2, e3.mono (cut_le hk), e4⟩,
    fun id id' o o' b h1 h2 e1 e2 => by
      obtain ⟨b1, _, f1, _⟩ := hr.k.obj id o h1
      obtain ⟨b2, _, f2, _⟩ := hr.k.obj id' o' h2
      rw [cut_some] at e1 e2 f1 f2
      exact hr.k.inj id id' o o' b h1 h2 (cut_some.2 ⟨f1.1, e1.2⟩) (cut_some.2 ⟨f2.1, e2.2⟩), hr.k.size⟩
  fresh := fun id hid => by unfold cut; rw [if_neg (by have : k ≤ id := hid; omega)]
  glob := fun g hg => cut_le hk _ _ (hr.glob g hg)

theorem run_alloc (hT : T.Ok P) {e : TypeId} {z : Value} (hz : zeroOf T e = some z) (w : World) :
    (Instr.alloc e true (.tuple #[])).run P w = .ok (.pointer (some ⟨w.heap.size, 0, none⟩)) { w with heap := w.heap.push (.cells z.cells e (0, 0)) } := by
  obtain ⟨h1, h2⟩ := run_zero (w := w) hT hz
  simp [Instr.alloc, h1, newVar, newRow]

theorem RI.step (hT : T.Full P) (hC : CallOk T P R.call) (hE : ExecOk T P R.exec) (hF : RegionFacts T ops (beforeA ops.toList [])) (hR : Runs T R ops A S V) (hst : Steady T R ops A S V) (h : RI T N ops A S V ρ0 w0 L m ρ act w) {i : Nat} {o : Oper} (ho : ops[i]? = some o) (hi : ¬ L i) (hpre : ∀ e ∈ o.after, Region.binds .any e = true → L e.on)
    {ro : Option Nat} {n : Nat} {Q : Exit → Act → World → Prop} {K : Act → World → Prop} (hK : ∀ m' ρ' act' w', RI T N ops A S V ρ0 w0 (fun j => L j ∨ j = i) m' ρ' act' w' → K act' w') : wpOpIn (FF ro) n P ops Q i K act w := by
  unfold wpOpIn
  simp only [ho]
  rw [h.want hF hR ho hi hpre]
  cases hw : wantedA ops o (A i) with
  | false =>
    rw [if_neg (by simp)]
    refine ⟨fun _ _ => trivial, ?_⟩
    obtain ⟨k1, k2⟩ := hR.skip i o ho hw
    have hv : ∀ ρ, VR ρ (V i) undef := fun ρ => by rw [k1]; exact VR.undef
    by_cases hI : imp T ops i
    · have hat := (h.turn hT.toOk hF hR ho hi hpre hI).2
      exact hK _ _ _ _ (h.acts hT.toOk hF hR ho hi hpre hI (ρ'' := cut ρ (S i).next) (w' := w) (by rw [k2]; exact Post.refl hat.hr) (hv _))
    · refine hK _ _ _ _ (h.look hF hR ho hi hpre hI (fun ha => ?_) (hv _))
      obtain ⟨p, h1, _, h2⟩ := ha
      rw [ho] at h1; cases h1; rw [hw] at h2; cases h2
  | true =>
    rw [if_pos rfl]
    have hop := hR.want i o ho hw
    obtain ⟨hcl, hop0⟩ := aop_eq hop
    have he := h.ev hF hR ho hi hpre hcl
    have hval : (kindOf T o.op = .pure ∨ kindOf T o.op = .read) → (∃ s', aop T R o.op (A i).eval (S m) = some (V i, s')) → o.wpIn (FF ro) n P act w K Q := by
      intro hk hm
      obtain ⟨s', hm⟩ := hm
      have hS := (looks_op hk hop0).1
      have h2 := (looks_op hk (aop_eq hm).2).2 { S m with next := max (S i).next (S m).next } (.inr rfl)
      have hr2 := h.post.hr.ahead (k := max (S i).next (S m).next) rfl (by omega)
      obtain ⟨v', g1, g2⟩ := tells_op hT.toOk hr2 hk h2 he
      refine ⟨fun _ _ => trivial, ?_⟩
      rw [Oper.semAt_plain _ _ _ (aop_noDefer hop), g1]
      refine hK _ _ _ _ (h.look hF hR ho hi hpre (fun hI => ?_) (fun ha => ?_) (by rw [hS]; exact g2))
      · obtain ⟨p, a1, a2⟩ := hI
        rw [ho] at a1; cases a1; rw [a2] at hk; rcases hk with hk | hk <;> cases hk
      · obtain ⟨p, a1, a2, _⟩ := ha
        rw [ho] at a1; cases a1; rw [a2] at hk; rcases hk with hk | hk <;> cases hk
    cases hk : kindOf T o.op with
    | bad => exact absurd hk (hF.kind i o ho)
    | impure =>
      have hI : imp T ops i := ⟨o, ho, hk⟩
      have hat := (h.turn hT.toOk hF hR ho hi hpre hI).2
      have hmi := h.below hi (.inl hI)
      have hmx : max (S i).next (S m).next = (S i).next := Nat.max_eq_left (hR.mono hmi (Nat.le_of_lt (imp_lt hI)))
      rw [hmx] at he
      refine wp_goes (aop_noDefer hop) (goes_aop hT hat.hr hC hE hop0 he) ?_
      intro ρ' v' w' hv hp
      exact hK _ _ _ _ (h.acts hT.toOk hF hR ho hi hpre hI hp hv)
    | alloc =>
      have hA : alc T ops A i := ⟨o, ho, hk, hw⟩
      obtain ⟨o', e, z, ho', hoe, hz, hzc, hV, hS, hao⟩ := hR.alloc hT.toOk hA
      rw [ho] at ho'; cases ho'
      refine ⟨fun _ _ => trivial, ?_⟩
      have hrun : (execOp act.eval o).run P w = .ok (.value (.pointer (some ⟨w.heap.size, 0, none⟩))) { w with heap := w.heap.push (.cells z.cells e (0, 0)) } := by
        obtain ⟨dst, op, ty, pos, after, guard⟩ := o
        simp only at hoe
        subst hoe
        show Sem.run P (do pure (Next.value (← Instr.alloc e true (.tuple #[])))) w = _
        rw [Sem.run_bind, run_alloc hT.toOk hz]; simp
      rw [Oper.semAt_plain _ _ _ (aop_noDefer hop), hrun]
      refine hK _ _ _ _ (h.makes hT.toOk hF hR ho hi hpre hA (ob := .cells z.cells e (0, 0)) (fun ρ' => ?_) (unfrozen_zero _ _) rfl ⟨rfl, rfl, rfl⟩)
      rw [hao]
      exact OR.row e (VR.cells (VR.closed hzc))
    | pure => exact hval (.inl hk) ⟨S m, by
        have := (looks_op (.inl hk) hop0).2 (S m) (.inl hk)
        unfold aop; rw [hcl]; exact this⟩
    | read =>
      refine hval (.inr hk) (hst i o m ho hk hw h.mle h.mtop (fun j hj hI => ?_) (fun j hj hI => ?_))
      · cases hb : bit (beforeA ops.toList []) j i with
        | false => rfl
        | true => exact absurd (bit_closed h.closed ((h.mimp j hI).2 hj) hb) hi
      · cases hb : bit (beforeA ops.toList []) i j with
        | false => rfl
        | true =>
          rcases bit_closed (ready_closed h.closed ho hpre) (.inr rfl) hb with h1 | rfl
          · have := (h.mimp j hI).1 h1; omega
          · obtain ⟨p, a1, a2⟩ := hI
            rw [ho] at a1; cases a1; rw [a2] at hk; cases hk

theorem RI.done (hT : T.Ok P) (hF : RegionFacts T ops (beforeA ops.toList [])) (hR : Runs T R ops A S V) (h : RI T N ops A S V ρ0 w0 (fun j => j < ops.size) m ρ act w) :
    AR (cut ρ (S ops.size).next) (A ops.size) act ∧ Post T N ρ0 (S 0) w0 (cut ρ (S ops.size).next) (S ops.size) w := by
  have hp := h.at hT hF hR h.mle (Nat.le_refl _) (fun i h1 h2 hI => by have := (h.mimp i hI).1 h2; omega) (fun i _ h2 _ => h2)
  obtain ⟨a1, a2, a3⟩ := hR.acts ops.size (Nat.le_refl _)
  refine ⟨⟨?_, by rw [a2]; exact h.defers.mono hp.sub⟩, hp⟩
  have key : ∀ (l l' : List Value), l.length = l'.length → (∀ (d : Nat) (v : Value), l[d]? = some v → ∃ v', l'[d]? = some v' ∧ VR (cut ρ (S ops.size).next) v v') → VRL (cut ρ (S ops.size).next) l l' := by
    intro l
    induction l with
    | nil => intro l' hl _; cases l' with
      | nil => rfl
      | cons _ _ => simp at hl
    | cons x l ih =>
      intro l' hl hh
      cases l' with
      | nil => simp at hl
      | cons y l' =>
        obtain ⟨v', e1, e2⟩ := hh 0 x rfl
        simp only [List.getElem?_cons_zero, Option.some.injEq] at e1
        subst e1
        exact ⟨y, l', e2, ih l' (by simpa using hl) (fun d v hd => by simpa using hh (d + 1) v (by simpa using hd)), rfl⟩
  refine key _ _ (by rw [a1, Array.length_toList, h.len]) fun d v hd => ?_
  have hdl : d < (A 0).tmps.length := by
    rcases Nat.lt_or_ge d (A 0).tmps.length with h | h
    · exact h
    · rw [List.getElem?_eq_none (by omega)] at hd; cases hd
  rw [Array.getElem?_toList]
  rcases a3 d hdl with ⟨j, p, b1, b2, b3, b4, b5⟩ | ⟨b1, b2⟩
  · rcases h.tmps d hdl with ⟨j', p', v', c1, c2, c3, c4, c5, c6⟩ | ⟨c1, _⟩
    · have e1 : j ≤ j' := c4 j p b1 b2 b3
      have e2 : j' ≤ j := b4 j' p' c1 c2 c3
      have : j' = j := by omega
      subst this
      rw [b5] at hd; cases hd
      refine ⟨v', c5, VR.mono (cut_le ?_) _ c6⟩
      have := hR.mono (i := j' + 1) (j := ops.size) (by omega) (Nat.le_refl _)
      have := hR.mono h.mle (Nat.le_refl _)
      omega
    · exact absurd b3 (c1 j p b1 b2)
  · rcases h.tmps d hdl with ⟨j', p', v', c1, c2, c3, c4, c5, c6⟩ | ⟨c1, v1, v', c2, c3, c4⟩
    · exact absurd c3 (b1 j' p' c1 c2)
    · rw [b2, c2] at hd; cases hd
      exact ⟨v', c3, VR.mono (cut_le (hR.mono h.mle (Nat.le_refl _))) _ c4⟩

theorem RI.any (hT : T.Full P) (hC : CallOk T P R.call) (hE : ExecOk T P R.exec) (hF : RegionFacts T ops (beforeA ops.toList [])) (hR : Runs T R ops A S V) (hst : Steady T R ops A S V) {ro : Option Nat} {n : Nat} {Q : Exit → Act → World → Prop}
    (hQ : ∀ m ρ act w, RI T N ops A S V ρ0 w0 (fun j => j < ops.size) m ρ act w → Q .normal act w) : ∀ (fuel : Nat) (listed : Array Bool) (m : Nat) (ρ : Env) (act : Act) (w : World), listed.size = ops.size →
    RI T N ops A S V ρ0 w0 (fun j => listed.getD j false = true) m ρ act w → (∃ U : List Nat, U.length ≤ fuel ∧ ∀ i, i < ops.size → listed.getD i true = false → i ∈ U) → wpAnyIn (FF ro) n P .any ops Q fuel listed act w := by
  have hall : ∀ (listed : Array Bool) (m : Nat) (ρ : Env) (act : Act) (w : World), listed.size = ops.size → RI T N ops A S V ρ0 w0 (fun j => listed.getD j false = true) m ρ act w → (∀ i, i < ops.size → listed.getD i true = true) → Q .normal act w := by
    intro listed m ρ act w hsz h ha
    have e : (fun j => listed.getD j false = true) = (fun j => j < ops.size) := by
      funext j
      apply propext
      constructor
      · intro hj
        rcases Nat.lt_or_ge j ops.size with hl | hl
        · exact hl
        · rw [Array.getD_eq_getD_getElem?, Array.getElem?_eq_none (by omega)] at hj; cases hj
      · intro hj
        have h1 := ha j hj
        rw [Array.getD_eq_getD_getElem?] at h1 ⊢
        have : listed[j]? = some listed[j] := by simp [show j < listed.size by omega]
        rw [this] at h1 ⊢
        exact h1
    rw [e] at h
    exact hQ m ρ act w h
  have hempty : ∀ (listed : Array Bool), listed.size = ops.size → Region.ready .any ops listed = [] → ∀ i, i < ops.size → listed.getD i true = true := by
    intro listed hsz hr i
    induction i using Nat.strongRecOn with
    | _ i ih =>
      intro hi
      cases hx : listed.getD i true with
      | true => rfl
      | false =>
        have : i ∈ Region.ready .any ops listed := mem_ready.2 ⟨hx, ops[i], by simp [hi], fun e he hb => by
          have hlt := hF.edge i ops[i] (by simp [hi]) e he hb
          have h1 := ih e.on hlt (by omega)
          rw [Array.getD_eq_getD_getElem?] at h1 ⊢
          have : listed[e.on]? = some (listed[e.on]'(by omega)) := by simp [show e.on < listed.size by omega]
          rw [this] at h1 ⊢
          exact h1⟩
        rw [hr] at this; cases this
  intro fuel
  induction fuel with
  | zero =>
    intro listed m ρ act w hsz h hU
    obtain ⟨U, hU1, hU2⟩ := hU
    have hnil : U = [] := List.eq_nil_of_length_eq_zero (by omega)
    subst hnil
    have ha : ∀ i, i < ops.size → listed.getD i true = true := fun i hi => by
      cases hx : listed.getD i true with
      | true => rfl
      | false => have := hU2 i hi hx; cases this
    refine ⟨?_, hall listed m ρ act w hsz h ha⟩
    cases hr : Region.ready .any ops listed with
    | nil => rfl
    | cons i l =>
      obtain ⟨h1, o, h2, _⟩ := mem_ready.1 (show i ∈ Region.ready .any ops listed by rw [hr]; simp)
      rw [ha i (lt_of_get h2)] at h1; cases h1
  | succ fuel ih =>
    intro listed m ρ act w hsz h hU
    refine ⟨fun hr => hall listed m ρ act w hsz h (hempty listed hsz hr), fun i hi => ?_⟩
    obtain ⟨h1, o, ho, h2⟩ := mem_ready.1 hi
    have hil := lt_of_get ho
    have hnl : ¬ (listed.getD i false = true) := fun e => by
      rw [Array.getD_eq_getD_getElem?] at h1 e
      have : listed[i]? = some listed[i] := by simp [show i < listed.size by omega]
      rw [this] at h1 e
      simp only [Option.getD_some] at h1 e
      rw [h1] at e; cases e
    refine h.step hT hC hE hF hR hst ho hnl h2 fun m' ρ' act' w' h' => ?_
    have e : (fun j => listed.getD j false = true ∨ j = i) = (fun j => (listed.setIfInBounds i true).getD j false = true) := by
      funext j
      apply propext
      rw [Array.getD_eq_getD_getElem?, Array.getD_eq_getD_getElem?, Array.getElem?_setIfInBounds]
      by_cases hij : i = j
      · subst hij
        simp [show i < listed.size by omega]
      · simp [hij, Ne.symm hij]
    rw [e] at h'
    refine ih _ m' ρ' act' w' (by simp [hsz]) h' ?_
    obtain ⟨U, hU1, hU2⟩ := hU
    refine ⟨U.erase i, ?_, fun j hj hjl => ?_⟩
    · rw [List.length_erase_of_mem (hU2 i hil h1)]; omega
    · rw [Array.getD_eq_getD_getElem?, Array.getElem?_setIfInBounds] at hjl
      by_cases hij : i = j
      · subst hij
        simp [show i < listed.size by omega] at hjl
      · rw [if_neg hij, ← Array.getD_eq_getD_getElem?] at hjl
        exact (List.mem_erase_of_ne (Ne.symm hij)).2 (hU2 j hj hjl)
end

end Go.AM

namespace Go.AM

section
variable {T : Tab} {P : Program} {R : Rec} {N : Nat} {ops : Array Oper}

theorem steady_of {A : Nat → AAct} {S : Nat → AS} {V : Nat → Value} {tr : List (AAct × AS × Value)} {s' : AS} (hR : Runs T R ops A S V) (htr : ∀ i o, ops[i]? = some o → tr[i]? = some (A i, S i, V i)) (hlen : tr.length = ops.size) (hend : S ops.size = s')
    (h : (ops.toList.zipIdx.zip tr).all (fun ((o, i), (ai, _, v)) => if kindOf T o.op = .read ∧ wantedA ops o ai then
      steady T R (beforeA ops.toList []) ai o i v (S 0) (((ops.toList.zipIdx.zip ((tr.drop 1).map (fun x => x.2.1) ++ [s'])).filter fun ((o, _), _) => kindOf T o.op = .impure).map fun ((_, i), s) => (i, s)) else true) = true) :
    Steady T R ops A S V := by
  intro i o m ho hk hw hm hmt h1 h2
  have hil := lt_of_get ho
  have hx : ((o, i), (A i, S i, V i)) ∈ ops.toList.zipIdx.zip tr := by
    rw [List.mem_iff_getElem?]
    refine ⟨i, ?_⟩
    rw [List.getElem?_zip_eq_some]
    exact ⟨by rw [List.getElem?_zipIdx]; simp [ho], htr i o ho⟩
  have h3 := List.all_eq_true.1 h _ hx
  simp only at h3
  rw [if_pos ⟨hk, hw⟩] at h3
  -- what acts, in its order
  have hafter : (tr.drop 1).map (fun x => x.2.1) ++ [s'] = (List.range ops.size).map (fun j => S (j + 1)) := by
    apply List.ext_getElem?
    intro j
    rcases Nat.lt_trichotomy (j + 1) ops.size with hj | hj | hj
    · have hl : j < ((tr.drop 1).map (fun x => x.2.1)).length := by simp [hlen]; omega
      rw [List.getElem?_append_left hl, List.getElem?_map, List.getElem?_drop]
      obtain ⟨p, hp⟩ : ∃ p, ops[1 + j]? = some p := ⟨ops[1 + j]'(by omega), by simp [show 1 + j < ops.size by omega]⟩
      rw [htr (1 + j) p hp]
      rw [List.getElem?_map, List.getElem?_range (by omega)]
      simp [Nat.add_comm]
    · have hl : ((tr.drop 1).map (fun x => x.2.1)).length ≤ j := by simp [hlen]; omega
      have hl2 : j - ((tr.drop 1).map (fun x => x.2.1)).length = 0 := by simp [hlen]; omega
      rw [List.getElem?_append_right hl, hl2, List.getElem?_map, List.getElem?_range (by omega)]
      simp [hj, hend]
    · rw [List.getElem?_eq_none (by simp [hlen]; omega), List.getElem?_eq_none (by simp; omega)]
  have hzip : ops.toList.zipIdx.zip ((List.range ops.size).map (fun j => S (j + 1))) = (List.range ops.size).map (fun j => ((ops.getD j o, j), S (j + 1))) := by
    apply List.ext_getElem?
    intro j
    rcases Nat.lt_or_ge j ops.size with hj | hj
    · rw [List.getElem?_map, List.getElem?_range hj]
      simp only [Option.map_some]
      rw [List.getElem?_zip_eq_some]
      refine ⟨?_, by rw [List.getElem?_map, List.getElem?_range hj]; rfl⟩
      rw [List.getElem?_zipIdx]
      simp [hj, Array.getD_eq_getD_getElem?]
    · rw [List.getElem?_eq_none (by simp; omega), List.getElem?_eq_none (by simp; omega)]
  let q : Nat → Bool := fun j => decide (kindOf T (ops.getD j o).op = .impure)
  have hms : (((ops.toList.zipIdx.zip ((tr.drop 1).map (fun x => x.2.1) ++ [s'])).filter fun ((o, _), _) => kindOf T o.op = .impure).map fun ((_, i), s) => (i, s)) = ((List.range ops.size).filter q).map (fun j => (j, S (j + 1))) := by
    rw [hafter, hzip, List.filter_map, List.map_map]
    rfl
  rw [hms] at h3
  have hq : ∀ j, j < ops.size → (q j = true ↔ imp T ops j) := fun j hj => by
    have hg : ops.getD j o = ops[j] := by rw [Array.getD_eq_getD_getElem?]; simp [hj]
    simp only [q, decide_eq_true_eq, hg, imp]
    exact ⟨fun e => ⟨_, by simp [hj], e⟩, fun ⟨p, hp, e⟩ => by
      have : ops[j]? = some ops[j] := by simp [hj]
      rw [this] at hp; cases hp; exact e⟩
  have hsplit : (List.range ops.size).filter q = (List.range m).filter q ++ ((List.range' m (ops.size - m)).filter q) := by
    rw [← List.filter_append, List.range_eq_range', List.range_eq_range']
    congr 1
    have := List.range'_append_1 (s := 0) (m := m) (n := ops.size - m)
    rw [Nat.zero_add] at this
    rw [this]; congr 1; omega
  rw [hsplit, List.map_append] at h3
  have h4 := steadyGo_spec _ _ _ h3 (fun x hx => by
    obtain ⟨j, hj, rfl⟩ := List.mem_map.1 hx
    rw [List.mem_filter, List.mem_range] at hj
    exact h1 j hj.1 ((hq j (by omega)).1 hj.2)) (fun x hx => by
    obtain ⟨j, hj, rfl⟩ := List.mem_map.1 hx
    rw [List.mem_filter, List.mem_range'_1] at hj
    exact h2 j hj.1.1 ((hq j (by omega)).1 hj.2))
  have hlast : (((((List.range m).filter q).map (fun j => (j, S (j + 1)))).getLast?.map (·.2)).getD (S 0)) = S m := by
    rcases hmt with rfl | hI
    · rfl
    · have hml := imp_lt hI
      rcases Nat.eq_zero_or_pos m with rfl | hpos
      · rfl
      · obtain ⟨m', rfl⟩ : ∃ m', m = m' + 1 := ⟨m - 1, by omega⟩
        have hqm : q m' = true := (hq m' (by omega)).2 hI
        rw [List.range_succ, List.filter_append, List.filter_cons, if_pos hqm]
        simp
  rw [hlast] at h4
  exact steadyAt_spec h4

theorem steady_calm {A : Nat → AAct} {S : Nat → AS} {V : Nat → Value} (hF : RegionFacts T ops (beforeA ops.toList [])) (hR : Runs T R ops A S V)
    (hc : ops.toList.all (fun o => match kindOf T o.op with | .pure | .read => true | _ => false) = true) : Steady T R ops A S V := by
  intro i o m ho hk hw hm hmt h1 h2
  have hk2 : ∀ (j : Nat) (p : Oper), ops[j]? = some p → kindOf T p.op = .pure ∨ kindOf T p.op = .read := fun j p hp => by
    have := List.all_eq_true.1 hc p (Array.mem_toList_iff.2 (Array.mem_of_getElem? hp))
    split at this
    · rename_i e; exact .inl e
    · rename_i e; exact .inr e
    · cases this
  have hq : ∀ j, j < ops.size → S (j + 1) = S j := fun j hj =>
    hR.quiet hF (o := ops[j]) (by simp [hj])
      (fun ⟨p, hp, e⟩ => by rcases hk2 j p hp with e2 | e2 <;> rw [e2] at e <;> cases e)
      (fun ⟨p, hp, e, _⟩ => by rcases hk2 j p hp with e2 | e2 <;> rw [e2] at e <;> cases e)
  have hall : ∀ j, j ≤ ops.size → S j = S 0 := by
    intro j
    induction j with
    | zero => intro _; rfl
    | succ j ih => intro hj; rw [hq j (by omega), ih (by omega)]
  have hil := lt_of_get ho
  exact ⟨_, by rw [hall m hm, ← hall i (by omega)]; exact hR.want i o ho hw⟩

theorem draw_ok (hT : T.Full P) (hC : CallOk T P R.call) (hE : ExecOk T P R.exec) {a a' : AAct} {s s' : AS} (h : execDraw T R ops a s = some (a', s')) {ρ : Env} {w : World} {act : Act} {ro : Option Nat}
    (hr : HR T ρ N s w) (ha : AR ρ a act) {n id : Nat} {Q : Exit → Act → World → Prop} (hQ : ∀ ρ' act' w', AR ρ' a' act' → Post T N ρ s w ρ' s' w' → Q .normal act' w') :
    (Code.region id ops true).wpIn (FF ro) n P Q act w := by
  unfold execDraw at h
  cases hok : regionOk T ops with
  | false => rw [hok] at h; cases h
  | true =>
    rw [hok] at h
    simp only [cond_true] at h
    split at h
    · rename_i tr a1 s1 htr
      obtain ⟨A, S, V, g1, g2, g3, g4, g5, g6⟩ := trace_rel ops.toList a s tr a1 s1 htr
      have hops : ∀ i o, ops[i]? = some o → ops.toList[i]? = some o := fun i o ho => by rw [Array.getElem?_toList]; exact ho
      have hR : Runs T R ops A S V := {
        put := fun i o ho => (g6 i o (hops i o ho)).2.1
        want := fun i o ho => (g6 i o (hops i o ho)).2.2.1
        skip := fun i o ho => (g6 i o (hops i o ho)).2.2.2.1
        next := fun i hi => (g6 i ops[i] (hops i _ (by simp [hi]))).2.2.2.2.1
        lim := fun i hi => (g6 i ops[i] (hops i _ (by simp [hi]))).2.2.2.2.2 }
      rw [Bool.cond_eq_ite] at h
      split at h
      · rename_i hall
        simp only [Option.some.injEq, Prod.mk.injEq] at h
        obtain ⟨rfl, rfl⟩ := h
        rw [← g2] at hall
        have hF := regionOk_facts hok
        have hst : Steady T R ops A S V := by
          rcases (Bool.or_eq_true _ _).mp hall with hc | hall
          · exact steady_calm hF hR hc
          · exact steady_of hR (fun i o ho => (g6 i o (hops i o ho)).1) (by rw [g5]; simp) (by simpa using g4) hall
        refine wpIn_region_any hT.orders ?_
        have hw : Post T N ρ s w ρ s { w with drawn := w.drawn + 1 } := hr.same rfl ⟨rfl, rfl, rfl⟩
        refine RI.any (N := N) (ρ0 := ρ) (w0 := { w with drawn := w.drawn + 1 }) hT hC hE hF hR hst ?_ ops.size _ 0 ρ act _ (by simp) ?_ ⟨List.range ops.size, by simp, fun i hi _ => by simpa using hi⟩
        · intro m ρ' act' w' hri
          obtain ⟨k1, k2⟩ := hri.done hT.toOk hF hR
          have e1 : A ops.size = a1 := by simpa using g3
          have e2 : S ops.size = s1 := by simpa using g4
          rw [e1, e2] at k1
          rw [e2, g2] at k2
          exact hQ _ _ _ k1 (hw.trans k2)
        · have hno : ∀ j, ¬ ((Array.replicate ops.size false).getD j false = true) := fun j => by
            rw [Array.getD_eq_getD_getElem?, Array.getElem?_replicate]; split <;> simp
          have hcut : cut ρ (S 0).next = ρ := cut_self (by rw [g2]; exact hr.fresh)
          refine { closed := fun j o hj => absurd hj (hno j), mle := Nat.zero_le _, mtop := .inl rfl, mimp := fun i _ => ⟨fun e => absurd e (hno i), fun e => by omega⟩, malc := fun i hi => by omega, post := ?_, dom := fun id b hb => .inl ?_, early := fun j hj => absurd hj (hno j), einj := fun j j' b hj => absurd hj (hno j), defers := by rw [g1]; exact ha.defers, len := by rw [g1, ha.tmps.length.symm]; simp, tmps := fun d hd => .inr ⟨fun j p hj => absurd hj (hno j), ?_⟩ }
          · rw [hcut, g2]; exact Post.refl hw.hr
          · rw [g2]; exact hr.idLt hb
          · rw [g1] at hd ⊢
            have : a.tmps[d]? = some a.tmps[d] := by simp [hd]
            obtain ⟨y, hy, hxy⟩ := ha.tmps.get? this
            refine ⟨_, y, this, by rw [← Array.getElem?_toList]; exact hy, ?_⟩
            rw [hcut]; exact hxy
      · cases h
    · cases h
end

end Go.AM

