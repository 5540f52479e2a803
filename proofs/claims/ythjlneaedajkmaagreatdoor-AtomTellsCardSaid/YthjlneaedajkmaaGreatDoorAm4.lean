/-
  The machine, part 4 of 6: its calls and loops do as the program's do.
-/
import Derived.Test.YthjlneaedajkmaaGreatDoorAm3
import Derived.RangeFuncCalls
import Derived.RangeFuncLeaves
import Derived.OrdersIn
import Derived.LoopNIn
import Derived.OwnWalkIn
namespace Go.AM

/-- An operation that makes no call: what it yields. -/
def Does (T : Tab) (P : Program) (N : Nat) (ρ : Env) (s : AS) (w : World) (m : Sem Next) (v : Value) (s' : AS) : Prop :=
  ∃ ρ' nx v' w', m.run P w = .ok nx w' ∧ (nx = .value v' ∨ (nx = .skip ∧ v' = undef)) ∧ VR ρ' v v' ∧ Post T N ρ s w ρ' s' w'

section
variable {T : Tab} {P : Program} {N : Nat} {ρ : Env} {s : AS} {w : World}

theorem Does.of_gives {m : Sem Value} {v : Value} {s' : AS} (h : Gives T P N ρ s w m v s') : Does T P N ρ s w (do pure (.value (← m))) v s' := by
  obtain ⟨ρ', v', w', h1, h2, h3⟩ := h
  exact ⟨ρ', .value v', v', w', by simp [h1], .inl rfl, h2, h3⟩
theorem Does.of_pure (hr : HR T ρ N s w) {m : Sem Value} {v : Value} (h : ∃ v', m.run P w = .ok v' w ∧ VR ρ v v') : Does T P N ρ s w (do pure (.value (← m))) v s :=
  Does.of_gives (Gives.of_pure hr h)
theorem Does.of_unit {m : Sem Unit} {s' : AS} (h : ∃ w', m.run P w = .ok () w' ∧ Post T N ρ s w ρ s' w') : Does T P N ρ s w (do m; pure .skip) undef s' := by
  obtain ⟨w', h1, h2⟩ := h
  exact ⟨ρ, .skip, undef, w', by simp [h1], .inr ⟨rfl, rfl⟩, VR.undef, h2⟩
theorem Does.value (hr : HR T ρ N s w) {v v' : Value} (h : VR ρ v v') : Does T P N ρ s w (pure (.value v')) v s :=
  ⟨ρ, .value v', v', w, by simp, .inl rfl, h, Post.refl hr⟩

theorem VRL.toArray {ρ : Env} {l l' : List Value} (h : VRL ρ l l') : VRL ρ l l'.toArray.toList := h

/-- What an operation's operands are. -/
def EvR (ρ : Env) (op : Op) (ev ev' : Operand → Value) : Prop := ∀ x ∈ op.operands.toList, VR ρ (ev x) (ev' x)

set_option maxHeartbeats 4000000 in
theorem does_op (hT : T.Ok P) (hr : HR T ρ N s w) {R : Rec} {o : Oper} {ev ev' : Operand → Value} {v : Value} {s' : AS} (h : aop0 T R o.op ev s = some (v, s')) (he : EvR ρ o.op ev ev') (hc : ∀ c, o.op ≠ .call c) :
    Does T P N ρ s w (execOp ev' o) v s' := by
  obtain ⟨dst, op, ty, pos, after, guard⟩ := o
  simp only at h he hc
  unfold aop0 at h
  split at h
  · cases h; exact Does.value hr (he _ (by simp [Op.operands]))
  · cases h; exact Does.value hr (he _ (by simp [Op.operands]))
  · rename_i c a b
    have h1 := he c (by simp [Op.operands]); have h2 := he a (by simp [Op.operands]); have h3 := he b (by simp [Op.operands])
    split at h
    · rename_i t hv
      cases h
      rw [hv] at h1
      have h1 : ev' c = .bool t := h1
      refine ⟨ρ, .value (if t then ev' a else ev' b), _, w, by simp [execOp, h1, asBool], .inl rfl, ?_, Post.refl hr⟩
      cases t
      · exact h3
      · exact h2
    · cases h
  · rename_i e
    obtain ⟨z, hz, h⟩ := Option.map_eq_some_iff.1 h
    cases h
    exact Does.of_gives (m := Instr.alloc e true (.tuple #[])) (gives_alloc hT hr hz)
  · rename_i e x
    cases h
    exact Does.of_gives (m := Instr.box e (ev' x)) (gives_box hr (he x (by simp [Op.operands])))
  · rename_i t parts
    obtain ⟨z, hz, h⟩ := Option.map_eq_some_iff.1 h
    cases h
    have hp := PRL.map (ρ := ρ) parts.toList ev ev' (fun x hx => he x.2 (by simp only [Op.operands]; exact List.mem_map.2 ⟨x, hx, rfl⟩))
    have := run_abuild (w := w) hT hz hp
    refine Does.of_pure (m := Instr.build t (parts.map fun (i, x) => (i, ev' x))) hr ?_
    rwa [← List.map_toArray] at this
  · rename_i t len parts
    have hp := PRL.map (ρ := ρ) parts.toList ev ev' (fun x hx => he x.2 (by simp only [Op.operands]; exact List.mem_map.2 ⟨x, hx, rfl⟩))
    have := gives_buildSlice hT hr h hp
    refine Does.of_gives (m := Instr.buildSlice t len (parts.map fun (i, x) => (i, ev' x))) ?_
    rwa [← List.map_toArray] at this
  · rename_i t a
    have h1 := he a (by simp [Op.operands])
    split at h
    · rename_i p hp
      obtain ⟨z, hz, h⟩ := Option.map_eq_some_iff.1 h
      cases h
      rw [hp] at h1
      obtain ⟨b, hb, h1⟩ := h1
      obtain ⟨b', v', g1, g2, g3⟩ := run_loadVar (P := P) hT hr hz
      rw [hb] at g1; cases g1
      exact Does.of_pure (m := Instr.loadAt t (ev' a)) hr ⟨v', by simp [Instr.loadAt, h1, Instr.sureAddr, g2], g3⟩
    · cases h
  · rename_i t a x
    have h1 := he a (by simp [Op.operands]); have h2 := he x (by simp [Op.operands])
    split at h
    · rename_i p hp
      obtain ⟨z, hz, h⟩ := Option.map_eq_some_iff.1 h
      cases h
      rw [hp] at h1
      obtain ⟨b, hb, h1⟩ := h1
      obtain ⟨b', w', g1, g2, g3⟩ := run_storeVar (P := P) hT hr hz h2
      rw [hb] at g1; cases g1
      exact Does.of_unit (m := Instr.storeAt t (ev' a) (ev' x)) ⟨w', by simp [Instr.storeAt, h1, Instr.sureAddr, g2], g3⟩
    · cases h
  · rename_i x
    have h1 := he x (by simp [Op.operands])
    have key : ∀ y y' : Value, VR ρ y y' → (match y with
      | .pointer none | .nilIface | .nilFunc => none
      | .func (.method _) _ _ => none
      | v => some (v, s)) = some (v, s') → v = y ∧ s' = s ∧ execOp (fun _ => y') { dst, op := .nilCheck x, type := ty, pos, after, guard } = pure (.value y') := by
      intro y y' hy hm
      cases y with
      | pointer a =>
        cases a with
        | none => cases hm
        | some a => cases hm; obtain ⟨b, _, rfl⟩ := hy; exact ⟨rfl, rfl, rfl⟩
      | nilIface => cases hm
      | nilFunc => cases hm
      | func f a c =>
        obtain ⟨a⟩ := a; obtain ⟨c⟩ := c
        cases f with
        | method n => cases hm
        | func g => cases hm; obtain ⟨f', a', c', hf, _, _, rfl⟩ := hy; cases hf; exact ⟨rfl, rfl, rfl⟩
        | yield l => cases hm; obtain ⟨f', a', c', ⟨l', _, rfl⟩, _, _, rfl⟩ := hy; exact ⟨rfl, rfl, rfl⟩
        | methodOf _ _ => obtain ⟨f', a', c', hf, _⟩ := hy; exact hf.elim
        | via _ _ _ _ => obtain ⟨f', a', c', hf, _⟩ := hy; exact hf.elim
      | bool b => cases hm; cases hy; exact ⟨rfl, rfl, rfl⟩
      | int k n => cases hm; cases hy; exact ⟨rfl, rfl, rfl⟩
      | float _ _ => exact hy.elim
      | complex _ _ _ => exact hy.elim
      | string _ => cases hm; cases hy; exact ⟨rfl, rfl, rfl⟩
      | slice a l c =>
        cases hm
        obtain ⟨a', c', rfl, _⟩ := hy.slice_move
        exact ⟨rfl, rfl, rfl⟩
      | map r =>
        cases hm
        cases r with
        | none => cases hy; exact ⟨rfl, rfl, rfl⟩
        | some r => obtain ⟨b, _, rfl⟩ := hy; exact ⟨rfl, rfl, rfl⟩
      | chan _ => exact hy.elim
      | iface t x => cases hm; obtain ⟨x', _, rfl⟩ := hy; exact ⟨rfl, rfl, rfl⟩
      | agg cs => obtain ⟨cs⟩ := cs; cases hm; obtain ⟨x', _, rfl⟩ := hy; exact ⟨rfl, rfl, rfl⟩
      | tuple cs => obtain ⟨cs⟩ := cs; cases hm; obtain ⟨x', _, rfl⟩ := hy; exact ⟨rfl, rfl, rfl⟩
    obtain ⟨rfl, rfl, h3⟩ := key _ _ h1 h
    have h4 : execOp ev' { dst, op := .nilCheck x, type := ty, pos, after, guard } = execOp (fun _ => ev' x) { dst, op := .nilCheck x, type := ty, pos, after, guard } := rfl
    rw [h4, h3]
    exact Does.value hr h1
  · rename_i op t x y extra
    obtain ⟨z, hz, h⟩ := Option.map_eq_some_iff.1 h
    cases h
    exact Does.of_pure (m := do eqGuard op t x y (ev' x) (ev' y); binOp op t (ev' x) (ev' y)) hr (run_abin hT hr hz (he x (by simp [Op.operands])) (he y (by simp [Op.operands])))
  · rename_i op t x
    obtain ⟨z, hz, h⟩ := Option.map_eq_some_iff.1 h
    cases h
    have := run_aun (P := P) (w := w) hz (he x (by simp [Op.operands]))
    exact Does.of_pure (m := Op.unary op (ev' x)) hr ⟨v, this.1, this.2⟩
  · rename_i src dst x
    exact Does.of_gives (m := convert src dst (ev' x)) (gives_aconv hT hr h (he x (by simp [Op.operands])))
  · rename_i t x
    have h1 := he x (by simp [Op.operands])
    split at h
    · cases h
    · rename_i d hn hu
      cases h
      refine Does.of_pure (m := Instr.makeInterface t (ev' x)) hr ⟨.iface t (ev' x), ?_, _, h1, rfl⟩
      cases d <;> first
        | (exact absurd hu (hn _))
        | (exact (hn _ rfl).elim)
        | simp [Instr.makeInterface, run_und hT hu]
    · cases h
  · rename_i fn first captured
    have g1 := VRL.map (ρ := ρ) first.toList ev ev' (fun x hx => he x (by simp only [Op.operands, Array.toList_append, List.mem_append]; exact .inl hx))
    have g2 := VRL.map (ρ := ρ) captured.toList ev ev' (fun x hx => he x (by simp only [Op.operands, Array.toList_append, List.mem_append]; exact .inr hx))
    have ha : ∀ (l : Array Operand) (f : Operand → Value), l.map f = ⟨l.toList.map f⟩ := fun l f => by
      apply Array.ext'; simp
    split at h
    · cases h
      refine Does.of_pure (m := Instr.makeFunc _ (first.map ev') (captured.map ev')) hr ⟨_, by simp [Instr.makeFunc] <;> rfl, ?_⟩
      rw [ha first ev, ha captured ev, ha first ev', ha captured ev']
      exact ⟨_, _, _, rfl, g1, g2, rfl⟩
    · cases h
      refine Does.of_pure (m := Instr.makeFunc _ (first.map ev') (captured.map ev')) hr ⟨_, by simp [Instr.makeFunc] <;> rfl, ?_⟩
      rw [ha first ev, ha captured ev, ha first ev', ha captured ev']
      exact ⟨_, _, _, rfl, g1, g2, rfl⟩
    · cases h
  · rename_i t r
    cases r with
    | none =>
      cases h
      exact Does.of_gives (m := Instr.makeMap t none) (gives_makeMap hT hr)
    | some x =>
      have h1 := he x (by simp [Op.operands])
      simp only [Option.map_some] at h
      split at h
      · rename_i e; cases e
      · rename_i j n k e hx hu
        cases h
        simp only [Option.some.injEq] at hx
        rw [hx] at h1
        have h1 : ev' x = .int j n := h1
        have := gives_makeMap1 (P := P) (n := n) (j := j) hT hr hu
        rw [← h1] at this
        exact Does.of_gives (m := Instr.makeMap t (some (ev' x))) this
      · cases h
  · rename_i t l c
    exact Does.of_gives (m := Instr.makeSlice t (ev' l) (ev' c)) (gives_makeSlice hT hr h (he l (by simp [Op.operands])) (he c (by simp [Op.operands])))
  · rename_i t x lo hi mx
    obtain ⟨z, hz, h⟩ := Option.map_eq_some_iff.1 h
    cases h
    have ho : ∀ y : Option Operand, (∀ z, y = some z → z ∈ (Op.slice t x lo hi mx).operands.toList) → VRO ρ (y.map ev) (y.map ev') := fun y hy => by
      cases y with
      | none => first | trivial | rfl
      | some y => exact ⟨_, he y (hy y rfl), rfl⟩
    exact Does.of_pure (m := Instr.sliceAt t (ev' x) (lo.map ev') (hi.map ev') (mx.map ev')) hr (run_aslice (P := P) hT hz (he x (by simp [Op.operands])) (ho lo (fun z hz => by subst hz; simp [Op.operands])) (ho hi (fun z hz => by subst hz; simp [Op.operands])) (ho mx (fun z hz => by subst hz; simp [Op.operands])))
  · rename_i t x f
    obtain ⟨z, hz, h⟩ := Option.map_eq_some_iff.1 h
    cases h
    exact Does.of_pure (m := Instr.fieldAt t (ev' x) f) hr (run_afieldAddr (P := P) hT hz (he x (by simp [Op.operands])))
  · rename_i t x f
    obtain ⟨z, hz, h⟩ := Option.map_eq_some_iff.1 h
    cases h
    exact Does.of_pure (m := Instr.field t (ev' x) f) hr (run_afield (P := P) hT hz (he x (by simp [Op.operands])))
  · rename_i t x ix
    obtain ⟨z, hz, h⟩ := Option.map_eq_some_iff.1 h
    cases h
    exact Does.of_pure (m := Instr.indexAt t (ev' x) (ev' ix)) hr (run_aindexAddr (P := P) hT hz (he x (by simp [Op.operands])) (he ix (by simp [Op.operands])))
  · rename_i t x ix
    obtain ⟨z, hz, h⟩ := Option.map_eq_some_iff.1 h
    cases h
    exact Does.of_pure (m := Instr.index t (ev' x) (ev' ix)) hr (run_aindex (P := P) hT hz (he x (by simp [Op.operands])) (he ix (by simp [Op.operands])))
  · rename_i t x ix ok
    obtain ⟨z, hz, h⟩ := Option.map_eq_some_iff.1 h
    cases h
    exact Does.of_pure (m := Instr.lookup t (ev' x) (ev' ix) ok) hr (run_alookup (P := P) hT hr hz (he x (by simp [Op.operands])) (he ix (by simp [Op.operands])))
  · rename_i t m k x
    obtain ⟨z, hz, h⟩ := Option.map_eq_some_iff.1 h
    cases h
    exact Does.of_unit (m := Instr.mapUpdate t (ev' m) (ev' k) (ev' x)) (run_amapUpdate (P := P) hT hr hz (he m (by simp [Op.operands])) (he k (by simp [Op.operands])) (he x (by simp [Op.operands])))
  · rename_i t m k x
    obtain ⟨z, hz, h⟩ := Option.map_eq_some_iff.1 h
    cases h
    exact Does.of_unit (m := Instr.mapUpdate t (ev' m) (ev' k) (ev' x)) (run_amapUpdate (P := P) hT hr hz (he m (by simp [Op.operands])) (he k (by simp [Op.operands])) (he x (by simp [Op.operands])))
  · rename_i t x
    have h1 := he x (by simp [Op.operands])
    split at h
    · rename_i b hu hx
      cases h
      rw [hx] at h1
      have h1 : ev' x = .string b := h1
      have := gives_range (P := P) hT hr hu (b := b)
      rw [← h1] at this
      exact Does.of_gives (m := Instr.range t (ev' x)) this
    · cases h
  · rename_i it
    exact Does.of_gives (m := Instr.next (ev' it) true ty) (gives_next hr h (he it (by simp [Op.operands])) ty)
  · rename_i x xt a ok
    obtain ⟨z, hz, h⟩ := Option.map_eq_some_iff.1 h
    cases h
    exact Does.of_pure (m := Instr.typeAssert (ev' x) xt a ok) hr (run_typeAssert (P := P) hT hz (he x (by simp [Op.operands])))
  · rename_i t i
    have h1 := he t (by simp [Op.operands])
    split at h
    · rename_i vs hv
      obtain ⟨z, hz, h⟩ := Option.map_eq_some_iff.1 h
      cases h
      rw [hv] at h1
      obtain ⟨vs⟩ := vs
      obtain ⟨vs', h2, h3⟩ := h1
      obtain ⟨y, hy, hyr⟩ := h2.get? hz
      exact Does.of_pure (m := Instr.extract (ev' t) i) hr ⟨y, by simp [Instr.extract, h3, hy], hyr⟩
    · cases h
  · exact absurd rfl (hc _)
  · cases h
end

end Go.AM

namespace Go.AM

/-- The ending of a call that returns. -/
def Ret (R : Value → World → Prop) : Ending → World → Prop
  | .returned v, w => R v w
  | _, _ => False

/-- No fence, but whose round it is. -/
abbrev FF (r : Option Nat) : Fence := { Fence.wide with round := r }
theorem FF.room (r : Option Nat) (n : Nat) : (FF r).room n := fun _ h => by simp [Fence.wide] at h
theorem FF.depth (r : Option Nat) : ¬ ((FF r).depth.isSome = true) := by simp [Fence.wide]

def Ends (T : Tab) (N : Nat) (ρ : Env) (s : AS) (w : World) (v : Value) (s' : AS) : Ending → World → Prop :=
  Ret fun v' w' => ∃ ρ', VR ρ' v v' ∧ Post T N ρ s w ρ' s' w'

/-- A call of a function by its number does as the machine says. -/
def CallOk (T : Tab) (P : Program) (cl : Nat → List Value → AS → Option (Value × AS)) : Prop :=
  ∀ f args s v s', cl f args s = some (v, s') → ∀ N ρ w args', HR T ρ N s w → VRL ρ args args' → ∀ r n, CallsIn (FF r) n P f ⟨args'⟩ w (Ends T N ρ s w v s')

def DR (ρ : Env) (d d' : Deferred) : Prop :=
  match d.target with
  | .collected r => ∃ r', ρ r = some r' ∧ d'.target = .collected r'
  | .fn (.func g) c => ∃ c', VRL ρ c.toList c' ∧ d'.target = .fn (.func g) ⟨c'⟩ ∧ VRL ρ d.args.toList d'.args.toList
  | _ => False
def DRL (ρ : Env) : List Deferred → List Deferred → Prop
  | [], l => l = []
  | d :: ds, l => ∃ d' ds', DR ρ d d' ∧ DRL ρ ds ds' ∧ l = d' :: ds'

structure AR (ρ : Env) (a : AAct) (act : Act) : Prop where
  tmps : VRL ρ a.tmps act.tmps.toList
  defers : DRL ρ a.defers act.defers

def RD (ρ : Env) (rd ro : Option Nat) : Prop :=
  match rd with
  | none => ro = none
  | some l => ∃ l', ρ l = some l' ∧ ro = some l'

def ExecOk (T : Tab) (P : Program) (ex : Option Nat → Code → AAct → AS → Option (Exit × AAct × AS)) : Prop :=
  ∀ rd c a s e a' s', ex rd c a s = some (e, a', s') → ∀ N ρ w act ro, HR T ρ N s w → AR ρ a act → RD ρ rd ro →
    ∀ n (Q : Exit → Act → World → Prop), (∀ ρ' act' w', AR ρ' a' act' → Post T N ρ s w ρ' s' w' → Q e act' w') → c.wpIn (FF ro) n P Q act w

/-- The tables, and what is known of functions without a walk. -/
structure Tab.Full (T : Tab) (P : Program) : Prop extends Tab.Ok T P where
  named : ∀ k f, T.fn k = some f → (f.name == "runtime.NumGoroutine") = false
  ext : ∀ k f x, T.fn k = some f → f.body = none → T.ext k = some x → ∀ args s v s', runExt T x args s = some (v, s') →
    ∀ N ρ w args', HR T ρ N s w → VRL ρ args args' → Does T P N ρ s w (callFunc k ⟨args'⟩) v s'
  sum : ∀ k f c g, T.fn k = some f → f.body = some c → T.sum k = some g → CallOk T P fun k' args s => if k' = k then g args s else none

theorem DR.mono {ρ ρ' : Env} (h : Sub ρ ρ') {d d' : Deferred} (hd : DR ρ d d') : DR ρ' d d' := by
  unfold DR at *
  split
  · rename_i r hr
    simp only [hr] at hd
    obtain ⟨r', h1, h2⟩ := hd; exact ⟨r', h _ _ h1, h2⟩
  · rename_i g c hr
    simp only [hr] at hd
    obtain ⟨c', h1, h2, h3⟩ := hd; exact ⟨c', VRL.mono h _ h1, h2, VRL.mono h _ h3⟩
  · rename_i h1 h2
    split at hd
    · rename_i e; exact (h1 _ e).elim
    · rename_i e; exact (h2 _ _ e).elim
    · exact hd
theorem DRL.mono {ρ ρ' : Env} (h : Sub ρ ρ') : ∀ {l l' : List Deferred}, DRL ρ l l' → DRL ρ' l l'
  | [], _, hl => hl
  | _ :: _, _, ⟨d', ds', h1, h2, h3⟩ => ⟨d', ds', h1.mono h, h2.mono h, h3⟩
theorem AR.mono {ρ ρ' : Env} (h : Sub ρ ρ') {a : AAct} {act : Act} (ha : AR ρ a act) : AR ρ' a act := ⟨VRL.mono h _ ha.tmps, ha.defers.mono h⟩
theorem RD.mono {ρ ρ' : Env} (h : Sub ρ ρ') {rd ro : Option Nat} (hd : RD ρ rd ro) : RD ρ' rd ro := by
  cases rd with
  | none => exact hd
  | some l => obtain ⟨l', h1, h2⟩ := hd; exact ⟨l', h _ _ h1, h2⟩

theorem AR.eval {T : Tab} {ρ : Env} {a : AAct} {act : Act} (ha : AR ρ a act) (hg : ∀ g, g ≤ T.nglob → ρ g = some g) {x : Operand} (hx : opndClosed T x = true) : VR ρ (a.eval x) (act.eval x) := by
  cases x with
  | tmp t =>
    have := ha.tmps.getD t (d := undef) (d' := undef) VR.undef
    simpa [AAct.eval, Act.eval, getN_eq] using this
  | const v => exact VR.closed hx
  | global g => exact ⟨g, hg g (Nat.le_of_ble_eq_true hx), rfl⟩
  | func f => exact ⟨_, [], [], rfl, rfl, rfl, rfl⟩

theorem AR.put {ρ : Env} {a : AAct} {act : Act} (ha : AR ρ a act) (dst : Option Tmp) {v v' : Value} (hv : VR ρ v v') : AR ρ (a.put dst v) (act.put dst v') := by
  cases dst with
  | none => exact ha
  | some d => exact ⟨by simpa [AAct.put, Act.put, setN_eq] using ha.tmps.set d hv, ha.defers⟩

theorem AR.evR {T : Tab} {ρ : Env} {a : AAct} {act : Act} (ha : AR ρ a act) (hg : ∀ g, g ≤ T.nglob → ρ g = some g) {op : Op} (ho : opClosed T op = true) : EvR ρ op a.eval act.eval := fun x hx =>
  ha.eval (T := T) hg (List.all_eq_true.1 ho x hx)

section
variable {T : Tab} {P : Program} {N : Nat} {ρ : Env} {s : AS} {w : World}

/-- What an operation comes to: a value, a call, a round. -/
def Goes (T : Tab) (P : Program) (N : Nat) (ρ : Env) (s : AS) (w : World) (m : Sem Next) (v : Value) (s' : AS) : Prop :=
  Does T P N ρ s w m v s' ∨
  (∃ f args, m.run P w = .ok (.enter f args) w ∧ ∀ r n, CallsIn (FF r) n P f args w (Ends T N ρ s w v s')) ∨
  (∃ l f tmps assign body, m.run P w = .ok (.round l f tmps assign body) w ∧ ∀ r n, RoundIn (FF r) n P l f tmps assign body w (Ends T N ρ s w v s'))

theorem Goes.congr {m m' : Sem Next} {v : Value} {s' : AS} (h : Goes T P N ρ s w m' v s') (he : m.run P w = m'.run P w) : Goes T P N ρ s w m v s' := by
  unfold Goes Does at *; rw [he]; exact h

theorem wp_goes {o : Oper} {act : Act} {v : Value} {s' : AS} (hnd : ∀ c, o.op ≠ .defer c) (h : Goes T P N ρ s w (execOp act.eval o) v s') {r : Option Nat} {n : Nat} {K : Act → World → Prop} {Q : Exit → Act → World → Prop}
    (hK : ∀ ρ' v' w', VR ρ' v v' → Post T N ρ s w ρ' s' w' → K (act.put o.dst v') w') : o.wpIn (FF r) n P act w K Q := by
  refine ⟨fun _ _ => trivial, ?_⟩
  rw [Oper.semAt_plain _ _ _ hnd]
  rcases h with ⟨ρ', nx, v', w', h1, h2, h3, h4⟩ | ⟨f, args, h1, h2⟩ | ⟨l, f, tmps, assign, body, h1, h2⟩
  · rw [h1]
    rcases h2 with rfl | ⟨rfl, rfl⟩
    · exact hK _ _ _ h3 h4
    · exact hK _ _ _ h3 h4
  · rw [h1, Oper.uponIn_enter]
    refine ⟨fun h => absurd h (FF.depth r), (h2 r (n - 1)).mono fun e w' he => ?_⟩
    cases e with
    | returned v' => obtain ⟨ρ', g1, g2⟩ := he; exact hK _ _ _ g1 g2
    | panicked _ => exact he.elim
    | outgrown => exact he.elim
  · rw [h1, Oper.uponIn_round]
    refine ⟨fun h => absurd h (FF.depth r), (h2 r (n - 1)).mono fun e w' he => ?_⟩
    cases e with
    | returned v' => obtain ⟨ρ', g1, g2⟩ := he; exact hK _ _ _ g1 g2
    | panicked _ => exact he.elim
    | outgrown => exact he.elim

theorem findMethod_run (hT : T.Ok P) {t : TypeId} {v v' : Value} {name : String} {f : FuncId} {r : Value} (h : findMethod T t v name = some (f, r)) (hv : VR ρ v v') :
    ∃ r', (method (P.types.size + Made.depth) t v' name).run P w = .ok (f, r') w ∧ VR ρ r r' := by
  unfold findMethod at h
  split at h
  · rename_i i d hi hu
    split at h
    · rename_i m hm
      split at h
      · rename_i hp
        have hpl : m.path.toList = [] := List.eq_nil_of_length_eq_zero (by simpa using hp)
        have hfu : ∃ k, P.types.size + Made.depth = k + 1 := ⟨P.types.size + Made.depth - 1, by
          have : Made.depth = 60 ∨ 0 < Made.depth := by first | exact .inl rfl | exact .inr (by decide)
          omega⟩
        obtain ⟨k, hk⟩ := hfu
        rw [hk]
        split at h
        · rename_i g e hf
          cases h
          exact ⟨v', by simp [method, run_info hT hi, hm, hpl, follow, hf, receiverAt, run_und hT hu, Place.get], hv⟩
        · cases h
        · rename_i g hd hf
          obtain ⟨d3, hd3, hne⟩ : ∃ d3, T.und t = some d3 ∧ ∀ e, d3 = .pointer e → False := ⟨_, hu, hf⟩
          cases h
          refine ⟨v', ?_, hv⟩
          simp only [method, Sem.run_bind, run_info hT hi, Result.andThen_ok, hm, hpl, follow, Sem.run_pure, hd, receiverAt, run_und hT hd3]
          cases d3 <;> first
            | (exact (hne _ rfl).elim)
            | simp [Place.get]
        · cases h
      · split at h
        · rename_i st cs g hpl hfu
          rw [cond_eq_ite] at h
          split at h
          · cases h
          rename_i hde
          split at h
          · rename_i fields hst
            split at h
            · rename_i fl hfl
              obtain ⟨x, hx, h⟩ := Option.bind_eq_some_iff.1 h
              split at h
              · rename_i e he
                cases h
                obtain ⟨cs', hcs, rfl⟩ := hv
                obtain ⟨y, hy, hxy⟩ := run_part (P := P) hT hx hcs w
                have hfu' : ∃ k, P.types.size + Made.depth = k + 1 := ⟨P.types.size + Made.depth - 1, by
                  have : Made.depth = 60 ∨ 0 < Made.depth := by first | exact .inl rfl | exact .inr (by decide)
                  omega⟩
                obtain ⟨k, hk⟩ := hfu'
                rw [hk]
                have hde' : st.deref = false := by simpa using hde
                refine ⟨y, ?_, hxy⟩
                have hfo : (follow [st] t (.val (.agg ⟨cs'⟩))).run P w = .ok (fl.type, .val y) w := by
                  simp only [follow, Sem.run_bind, run_und hT hst, Result.andThen_ok]
                  rw [hfl]
                  simp only [hde', Sem.run_bind, hy, Result.andThen_ok, Bool.false_eq_true, if_false, follow, Sem.run_pure]
                simp only [method, Sem.run_bind, run_info hT hi, Result.andThen_ok, hm, hpl, hfo, hfu, receiverAt, run_und hT he, Place.get, Sem.run_pure]
              · cases h
            · cases h
          · cases h
        · cases h
    · cases h
  · cases h

theorem goes_callF (hT : T.Full P) (hr : HR T ρ N s w) {R : Rec} (hC : CallOk T P R.call) {f : FuncId} {args args' : List Value} {v : Value} {s' : AS} (h : callF T R f args s = some (v, s')) (ha : VRL ρ args args') :
    Goes T P N ρ s w (callFunc f ⟨args'⟩) v s' ∧ ∀ c fn, T.fn f = some fn → fn.body = some c → (∀ r n, CallsIn (FF r) n P f ⟨args'⟩ w (Ends T N ρ s w v s')) ∧ (callFunc f ⟨args'⟩).run P w = .ok (.enter f ⟨args'⟩) w := by
  unfold callF at h
  split at h
  · cases h
  · rename_i fn hfn
    have hP := hT.fn f fn hfn
    have hn := hT.named f fn hfn
    split at h
    · rename_i hb
      obtain ⟨x, hx, h⟩ := Option.bind_eq_some_iff.1 h
      exact ⟨.inl (hT.ext f fn x hfn hb hx _ _ _ _ h _ _ _ _ hr ha), fun c fn' e1 e2 => by rw [hfn] at e1; cases e1; rw [hb] at e2; cases e2⟩
    · rename_i c hb
      have hrun : (callFunc f ⟨args'⟩).run P w = .ok (.enter f ⟨args'⟩) w := by
        have h1 : fn.name ≠ "runtime.NumGoroutine" := by simpa using hn
        simp [callFunc, hP, h1, hb]
      have hcall : ∀ r n, CallsIn (FF r) n P f ⟨args'⟩ w (Ends T N ρ s w v s') := by
        split at h
        · rename_i g hg
          exact hT.sum f fn c g hfn hb hg f args s v s' (by simpa using h) N ρ w args' hr ha
        · exact hC f args s v s' h N ρ w args' hr ha
      exact ⟨.inr (.inl ⟨f, _, hrun, hcall⟩), fun _ _ _ _ => ⟨hcall, hrun⟩⟩

end

end Go.AM

namespace Go.AM

section
variable {T : Tab} {P : Program} {N : Nat} {ρ : Env} {s : AS} {w : World}

theorem loop_real (hr : HR T ρ N s w) {l l' : Nat} {st : LoopState} {pending : Option Code} {tmps : List Value} {params : Array Tmp} {assign body : Code} {defers : Nat} (h : s.heap.get l = some (.loop st pending tmps params assign body defers)) (hl : ρ l = some l') :
    ∃ fn tmps' d, w.heap[l']? = some (.loop { state := st, pending := pending, fn := fn, tmps := ⟨tmps'⟩, params := params, assign := assign, body := body, defers := d }) ∧ VRL ρ tmps tmps' ∧ ρ defers = some d := by
  obtain ⟨b, ob, h1, h2, ⟨fn, tmps', d, rfl, h3, h4⟩, _⟩ := hr.k.obj _ _ h
  rw [hl] at h1; cases h1
  exact ⟨fn, tmps', d, h2, h3, h4⟩

theorem run_getLoop {l : Nat} {r : Loop} (h : w.heap[l]? = some (.loop r)) : (Instr.getLoop l).run P w = .ok r w := by
  have : (getObj l).run P w = .ok (.loop r) w := by simp [getObj, Sem.run, h]
  simp [Instr.getLoop, this]

theorem Post.loop (hr : HR T ρ N s w) {l l' : Nat} {st st2 : LoopState} {pending pending2 : Option Code} {tmps tmps' : List Value} {params : Array Tmp} {assign body : Code} {defers d fn : Nat} (hk : s.heap.get l = some (.loop st pending tmps params assign body defers)) (hm : s.lim ≤ l) (hl : ρ l = some l')
    (ht : VRL ρ tmps tmps') (hd : ρ defers = some d) :
    Post T N ρ s w ρ (s.put l (.loop st2 pending2 tmps params assign body defers)) { w with heap := w.heap.setIfInBounds l' (.loop { state := st2, pending := pending2, fn := fn, tmps := ⟨tmps'⟩, params := params, assign := assign, body := body, defers := d }) } :=
  hr.put hk hm hl (Upd.setObj _ _) ⟨fn, tmps', d, rfl, ht, hd⟩ trivial

theorem setAll_rel : ∀ (ps : List Tmp) (vs vs' tmps tmps' : List Value), VRL ρ vs vs' → VRL ρ tmps tmps' →
    VRL ρ (setAll ps vs tmps) ((ps.zip vs').foldl (fun (ts : Array Value) (x : Tmp × Value) => ts.setIfInBounds x.1 x.2) ⟨tmps'⟩).toList := by
  intro ps
  induction ps with
  | nil => intro vs vs' tmps tmps' _ ht; simpa [setAll] using ht
  | cons p ps ih =>
    intro vs vs' tmps tmps' hv ht
    cases vs with
    | nil => cases hv; simpa [setAll] using ht
    | cons v vs =>
      obtain ⟨v', vs'', h1, h2, rfl⟩ := hv
      have := ih vs vs'' (tmps.set p v) (tmps'.set p v') h2 (ht.set p h1)
      simpa [setAll] using this

theorem run_endRound {l : Nat} {r : Loop} (h : w.heap[l]? = some (.loop r)) (jump : Option Code) :
    (Instr.endRound l jump).run P w = .ok (.bool jump.isNone) { w with heap := w.heap.setIfInBounds l (.loop { r with state := if jump.isNone then .ready else .done, pending := jump }) } := by
  simp only [Instr.endRound, Sem.run_bind, run_getLoop h, Result.andThen_ok]
  rw [run_setObj h (by intro c e f he; cases he)]
  simp

theorem round_ok (hr : HR T ρ N s w) {l l' : Nat} (hl : ρ l = some l') {args args' : List Value} {v : Value} {s' : AS} {R : Rec} (hE : ExecOk T P R.exec) (h : around R l args s = some (v, s')) (ha : VRL ρ args args') :
    Goes T P N ρ s w (Instr.yield l' ⟨args'⟩) v s' := by
  unfold around at h
  split at h
  · cases h
  · rename_i hlim
    split at h
    · rename_i pending tmps params assign body defers hk
      obtain ⟨fn, tmps', d, hw, htm, hd⟩ := loop_real hr hk hl
      split at h
      · rename_i hlen
        refine .inr (.inr ⟨l', fn, ((params.toList.zip args').foldl (fun (ts : Array Value) (x : Tmp × Value) => ts.setIfInBounds x.1 x.2) ⟨tmps'⟩), assign, body, ?_, fun r n => ?_⟩)
        · have hsz : ¬ (args'.length ≠ params.size) := by rw [ha.length]; omega
          have hz : params.zip ⟨args'⟩ = (params.toList.zip args').toArray := by
            apply Array.ext'; simp
          simp only [Instr.yield, Sem.run_bind, run_getLoop hw, Result.andThen_ok, List.size_toArray, hz, List.foldl_toArray']
          rw [if_neg hsz]
          simp
        · split at h
          · rename_i a1 s1 h1
            split at h
            · rename_i pending1 tmps1 params1 assign1 body1 defers1 hk1
              split at h
              · rename_i e a2 s2 h2
                refine roundIn_of_wpIn (F := FF r) trivial ?_
                refine hE (some l) assign _ s _ a1 s1 h1 N ρ w ⟨_, []⟩ (some l') hr ⟨setAll_rel params.toList args args' tmps tmps' ha htm, rfl⟩ ⟨l', hl, rfl⟩ n _ ?_
                intro ρ1 act1 w1 har1 hp1
                have hl1 := hp1.sub _ _ hl
                obtain ⟨fn1, tmps1', d1, hw1, htm1, hd1⟩ := loop_real hp1.hr hk1 hl1
                have hlim1 : s1.lim ≤ l := by rw [hp1.lim]; omega
                have hpb := Post.loop (st2 := .busy) (pending2 := pending1) (fn := fn1) hp1.hr hk1 hlim1 hl1 htm1 hd1
                refine ⟨{ w1 with heap := w1.heap.setIfInBounds l' (.loop { state := .busy, pending := pending1, fn := fn1, tmps := ⟨tmps1'⟩, params := params1, assign := assign1, body := body1, defers := d1 }) }, ?_, ?_⟩
                · show (Instr.beginRound l').run P w1 = .ok () { w1 with heap := w1.heap.setIfInBounds l' (.loop { state := .busy, pending := pending1, fn := fn1, tmps := ⟨tmps1'⟩, params := params1, assign := assign1, body := body1, defers := d1 }) }
                  simp only [Instr.beginRound, Sem.run_bind, run_getLoop hw1, Result.andThen_ok]
                  rw [run_setObj hw1 (by intro c e f he; cases he)]
                  simp
                · refine hE (some l) body a1 _ e a2 s2 h2 N ρ1 _ act1 (some l') hpb.hr har1 ⟨l', hl1, rfl⟩ n _ ?_
                  intro ρ2 act2 w2 har2 hp2
                  have hl2 := hp2.sub _ _ hl1
                  have hpp := (hp1.trans hpb).trans hp2
                  have hlim2 : s2.lim ≤ l := by rw [hpp.lim]; omega
                  split at h
                  · rename_i jump st3 pending3 tmps3 params3 assign3 body3 defers3 hj hk2
                    obtain ⟨fn2, tmps2', d2, hw2, htm2, hd2⟩ := loop_real hp2.hr hk2 hl2
                    simp only [Option.some.injEq, Prod.mk.injEq] at h
                    obtain ⟨rfl, rfl⟩ := h
                    have hpe := Post.loop (st2 := if jump.isNone then .ready else .done) (pending2 := jump) (fn := fn2) hp2.hr hk2 hlim2 hl2 htm2 hd2
                    have fin : ∃ v w3, (Instr.endRound l' jump).run P w2 = .ok v w3 ∧ Ends T N ρ s w (.bool jump.isNone) (s2.put l (.loop (if jump.isNone then .ready else .done) jump tmps3 params3 assign3 body3 defers3)) (.returned v) w3 :=
                      ⟨_, _, run_endRound hw2 jump, ρ2, rfl, hpp.trans hpe⟩
                    cases e with
                    | normal => simp only [jumpOf, Option.some.injEq] at hj; subst hj; exact fin
                    | ret => simp only [jumpOf, Option.some.injEq] at hj; subst hj; exact fin
                    | exit id => simp only [jumpOf, Option.some.injEq] at hj; subst hj; exact fin
                    | goto t => simp only [jumpOf, Option.some.injEq] at hj; subst hj; exact fin
                    | panic c => simp [jumpOf] at hj
                    | outgrown => simp [jumpOf] at hj
                  · cases h
              · cases h
            · cases h
          · cases h
      · cases h
    · cases h

end

end Go.AM

namespace Go.AM

section
variable {T : Tab} {P : Program} {N : Nat} {ρ : Env} {s : AS} {w : World}

theorem goes_callMethod (hT : T.Full P) (hr : HR T ρ N s w) {R : Rec} (hC : CallOk T P R.call) {t : TypeId} {x x' : Value} {name : String} {g : FuncId} {r : Value} {args args' : List Value} {v : Value} {s' : AS}
    (hm : findMethod T t x name = some (g, r)) (hx : VR ρ x x') (h : callF T R g (r :: args) s = some (v, s')) (ha : VRL ρ args args') :
    Goes T P N ρ s w (callMethod (.iface t x') name ⟨args'⟩) v s' := by
  obtain ⟨r', h1, h2⟩ := findMethod_run (w := w) hT.toOk hm hx
  have := (goes_callF hT hr hC h ⟨r', args', h2, ha, rfl⟩).1
  refine this.congr ?_
  have e : (#[r'] ++ (⟨args'⟩ : Array Value)) = ⟨r' :: args'⟩ := by apply Array.ext'; simp
  simp only [callMethod, Sem.run_bind, run_program, Result.andThen_ok, h1, e]

theorem extract_tail (x : Value) (l : List Value) : ((⟨x :: l⟩ : Array Value)).extract 1 (⟨x :: l⟩ : Array Value).size = ⟨l⟩ := by
  apply Array.ext'; simp

theorem goes_callV (hT : T.Full P) (hr : HR T ρ N s w) {R : Rec} (hC : CallOk T P R.call) (hE : ExecOk T P R.exec) {f f' : Value} {args args' : List Value} {v : Value} {s' : AS}
    (h : callV T R f args s = some (v, s')) (hf : VR ρ f f') (ha : VRL ρ args args') :
    ∃ d, (Deferred.ofValue f' ⟨args'⟩) = pure d ∧ Goes T P N ρ s w (invoke d.target d.args) v s' := by
  unfold callV at h
  split at h
  · rename_i g first captured
    obtain ⟨first⟩ := first; obtain ⟨captured⟩ := captured
    obtain ⟨fn', f', c', hfn, h1, h2, rfl⟩ := hf
    cases hfn
    refine ⟨_, rfl, ?_⟩
    have := (goes_callF hT hr hC h ((h1.append ha).append h2)).1
    refine this.congr ?_
    have e : ((⟨f'⟩ : Array Value) ++ ⟨args'⟩ ++ ⟨c'⟩) = ⟨f' ++ args' ++ c'⟩ := by apply Array.ext'; simp
    simp only [invoke, e]
  · rename_i l first captured
    obtain ⟨first⟩ := first; obtain ⟨captured⟩ := captured
    obtain ⟨fn', f', c', ⟨l', hl, rfl⟩, h1, h2, rfl⟩ := hf
    refine ⟨_, rfl, ?_⟩
    refine (round_ok hr hl hE h (h1.append ha)).congr ?_
    have e : ((⟨f'⟩ : Array Value) ++ ⟨args'⟩) = ⟨f' ++ args'⟩ := by apply Array.ext'; simp
    simp only [invoke, e]
  · rename_i name first captured
    obtain ⟨first⟩ := first; obtain ⟨captured⟩ := captured
    obtain ⟨fn', f', c', hfn, h1, h2, rfl⟩ := hf
    cases hfn
    refine ⟨_, rfl, ?_⟩
    have ha2 := h1.append ha
    split at h
    · rename_i t x rest he
      obtain ⟨⟨g, r⟩, hm, h⟩ := Option.bind_eq_some_iff.1 h
      simp only at he
      rw [he] at ha2
      obtain ⟨i', rest', ⟨x', hx, rfl⟩, hrest, e2⟩ := ha2
      refine (goes_callMethod hT hr hC hm hx h hrest).congr ?_
      have e : ((⟨f'⟩ : Array Value) ++ ⟨args'⟩) = ⟨.iface t x' :: rest'⟩ := by apply Array.ext'; simpa using e2
      have e3 : (⟨.iface t x' :: rest'⟩ : Array Value)[0]? = some (.iface t x') := rfl
      simp only [invoke, e, e3, extract_tail]
    · cases h
  · cases h

theorem goes_acall (hT : T.Full P) (hr : HR T ρ N s w) {R : Rec} (hC : CallOk T P R.call) (hE : ExecOk T P R.exec) {c : Call} {ev ev' : Operand → Value} {v : Value} {s' : AS}
    (h : acall T R ev c s = some (v, s')) (he : EvR ρ (.call c) ev ev') (dst : Option Tmp) (ty : TypeId) (pos : String) (after : Array Edge) (guard : Option (Nat × Bool)) :
    Goes T P N ρ s w (execOp ev' { dst, op := .call c, type := ty, pos, after, guard }) v s' := by
  have hargs : VRL ρ (c.args.toList.map ev) (c.args.toList.map ev') := VRL.map _ _ _ (fun x hx => he x (by
    simp only [Op.operands, Call.operands, Array.toList_append, List.mem_append]; exact .inr hx))
  have hmap : c.args.map ev' = ⟨c.args.toList.map ev'⟩ := by apply Array.ext'; simp
  have h0 : execOp ev' { dst, op := .call c, type := ty, pos, after, guard } = (do let d ← resolve ev' c ty; invoke d.target d.args) := rfl
  unfold acall at h
  simp only at h
  split at h
  · rename_i b hb
    obtain ⟨cs, hcs⟩ : ∃ cs, resolve ev' c ty = pure { target := .builtin b c.argTypes ty cs, args := c.args.map ev' } := ⟨_, by simp only [resolve, hb]; rfl⟩
    obtain ⟨m, h1, h2⟩ := gives_abuiltin hT.toOk hr h hargs ty cs
    refine Goes.congr (.inl (Does.of_gives h2)) ?_
    rw [h0, hcs]
    simp only [Sem.run_bind, Sem.run_pure, Result.andThen_ok, invoke]
    rw [hmap]
    have h1' : builtin b c.argTypes ty cs ⟨c.args.toList.map ev'⟩ = (do pure (.value (← m))) := h1
    rw [h1']
    simp
  · rename_i recv name hb
    have hrv : VR ρ (ev recv) (ev' recv) := he recv (by simp [Op.operands, Call.operands, hb])
    split at h
    · rename_i t x hx
      obtain ⟨⟨g, r⟩, hm, h⟩ := Option.bind_eq_some_iff.1 h
      rw [hx] at hrv
      obtain ⟨x', hx1, hx2⟩ := hrv
      refine (goes_callMethod hT hr hC hm hx1 h hargs).congr ?_
      rw [h0]
      have e : (#[Value.iface t x'] ++ (⟨c.args.toList.map ev'⟩ : Array Value)) = ⟨.iface t x' :: c.args.toList.map ev'⟩ := by apply Array.ext'; simp
      have e3 : (⟨.iface t x' :: c.args.toList.map ev'⟩ : Array Value)[0]? = some (.iface t x') := rfl
      simp only [resolve, hb, Sem.run_bind, Sem.run_pure, Result.andThen_ok, invoke, hmap, hx2, e, e3, extract_tail]
    · cases h
  · rename_i f hb
    have hfv : VR ρ (ev f) (ev' f) := he f (by simp [Op.operands, Call.operands, hb])
    obtain ⟨d, hd, hg⟩ := goes_callV hT hr hC hE h hfv hargs
    refine hg.congr ?_
    rw [h0]
    simp only [resolve, hb, hmap, hd, Sem.run_bind, Sem.run_pure, Result.andThen_ok]

theorem goes_aop (hT : T.Full P) (hr : HR T ρ N s w) {R : Rec} (hC : CallOk T P R.call) (hE : ExecOk T P R.exec) {o : Oper} {ev ev' : Operand → Value} {v : Value} {s' : AS}
    (h : aop0 T R o.op ev s = some (v, s')) (he : EvR ρ o.op ev ev') : Goes T P N ρ s w (execOp ev' o) v s' := by
  by_cases hc : ∃ c, o.op = .call c
  · obtain ⟨c, hc⟩ := hc
    obtain ⟨dst, op, ty, pos, after, guard⟩ := o
    simp only at hc
    subst hc
    exact goes_acall hT hr hC hE h he dst ty pos after guard
  · exact .inl (does_op hT.toOk hr h he (fun c e => hc ⟨c, e⟩))

theorem aop_eq {R : Rec} {op : Op} {ev : Operand → Value} {v : Value} {s' : AS} (h : aop T R op ev s = some (v, s')) : opClosed T op = true ∧ aop0 T R op ev s = some (v, s') := by
  unfold aop at h
  cases ho : opClosed T op with
  | false => rw [ho] at h; cases h
  | true => rw [ho] at h; exact ⟨rfl, h⟩

theorem aop_noDefer {R : Rec} {op : Op} {ev : Operand → Value} {v : Value} {s' : AS} (h : aop T R op ev s = some (v, s')) : ∀ c, op ≠ .defer c := by
  intro c hc; subst hc
  have := (aop_eq h).2
  simp [aop0] at this

theorem yieldedA_eq {ops : Array Oper} {a : AAct} {act : Act} (h : VRL ρ a.tmps act.tmps.toList) (j : Nat) : yieldedA ops a.tmps j = yielded ops act.tmps j := by
  unfold yieldedA yielded
  cases hd : (ops[j]?).bind (·.dst) with
  | none => rfl
  | some d =>
    simp only [Option.bind_some]
    cases hx : a.tmps[d]? with
    | none =>
      have : act.tmps[d]? = none := by
        rw [← Array.getElem?_toList, List.getElem?_eq_none_iff, h.length]
        exact List.getElem?_eq_none_iff.1 hx
      rw [this]
    | some x =>
      obtain ⟨y, hy, hxy⟩ := h.get? hx
      rw [Array.getElem?_toList] at hy
      rw [hy]
      have hk := hxy.kind.2.2.2.2.2.2
      by_cases hb : ∃ b, x = .bool b
      · obtain ⟨b, rfl⟩ := hb
        cases hxy
        rfl
      · have hb' : ∀ b, y ≠ .bool b := fun b e => hb ⟨b, hk b e⟩
        have e1 : ∀ z : Value, (∀ b, z ≠ .bool b) → (match some z with | some (.bool b) => some b | _ => none) = none := by
          intro z hz
          split
          · rename_i b e; cases e; exact absurd rfl (hz b)
          · rfl
        exact (e1 x (fun b e => hb ⟨b, e⟩)).trans (e1 y hb').symm

theorem wantedA_eq {ops : Array Oper} {o : Oper} {a : AAct} {act : Act} (h : VRL ρ a.tmps act.tmps.toList) : wantedA ops o a = Region.wanted o (yielded ops act.tmps) := by
  unfold wantedA Region.wanted
  cases hg : o.guard with
  | none => rfl
  | some x => obtain ⟨j, b⟩ := x; simp only [yieldedA_eq h]

end

end Go.AM

namespace Go.AM

section
variable {T : Tab} {P : Program} {N : Nat}

theorem aop_notDefer {op : Op} (h : ∀ c, op ≠ .defer c) {α : Type} (f : Call → α) (g : α) : (match op with | .defer c => f c | _ => g) = g := by
  cases op <;> first | rfl | exact absurd rfl (h _)

theorem adefer_eq {rd : Option Nat} {ev : Operand → Value} {c : Call} {d : Deferred} (h : adefer rd ev c = some d) :
    rd = none ∧ ∃ f g first captured, c.callee = .value f ∧ ev f = .func (.func g) first captured ∧ d = { target := .fn (.func g) captured, args := first ++ c.args.map ev } := by
  unfold adefer at h
  split at h
  · rename_i f hc
    split at h
    · rename_i g first captured hf
      cases h
      exact ⟨rfl, f, g, first, captured, hc, hf, rfl⟩
    · cases h
  · cases h

theorem execOps_ok (hT : T.Full P) {R : Rec} (hC : CallOk T P R.call) (hE : ExecOk T P R.exec) {rd : Option Nat} {ops : Array Oper} : ∀ (l pre : List Oper) (a a' : AAct) (s s' : AS), ops.toList = pre ++ l → execOps T R rd ops l a s = some (a', s') →
    ∀ ρ w act ro, HR T ρ N s w → AR ρ a act → RD ρ rd ro → ∀ n (Q : Exit → Act → World → Prop), (∀ ρ' act' w', AR ρ' a' act' → Post T N ρ s w ρ' s' w' → Q .normal act' w') →
    wpOpsIn (FF ro) n P ops Q (List.range' pre.length l.length) act w := by
  intro l
  induction l with
  | nil =>
    intro pre a a' s s' _ h ρ w act ro hr ha hd n Q hQ
    simp only [execOps, Option.some.injEq, Prod.mk.injEq] at h
    obtain ⟨rfl, rfl⟩ := h
    exact hQ ρ act w ha (Post.refl hr)
  | cons o l ih =>
    intro pre a a' s s' hops h ρ w act ro hr ha hd n Q hQ
    have ho : ops[pre.length]? = some o := by
      rw [← Array.getElem?_toList, hops, List.getElem?_append_right (Nat.le_refl _)]; simp
    have hnext : ∀ (a1 : AAct) (s1 : AS), execOps T R rd ops l a1 s1 = some (a', s') → ∀ ρ1 w1 act1, HR T ρ1 N s1 w1 → AR ρ1 a1 act1 → RD ρ1 rd ro → (∀ ρ' act' w', AR ρ' a' act' → Post T N ρ1 s1 w1 ρ' s' w' → Q .normal act' w') →
        wpOpsIn (FF ro) n P ops Q (List.range' (pre.length + 1) l.length) act1 w1 := by
      intro a1 s1 h1 ρ1 w1 act1 hr1 ha1 hd1 hQ1
      have := ih (pre ++ [o]) a1 a' s1 s' (by simp [hops]) h1 ρ1 w1 act1 ro hr1 ha1 hd1 n Q hQ1
      simpa using this
    rw [List.length_cons, List.range'_succ]
    simp only [wpOpsIn, ho]
    rw [← wantedA_eq (ρ := ρ) (ops := ops) (o := o) ha.tmps]
    unfold execOps at h
    cases hw : wantedA ops o a with
    | false =>
      rw [hw] at h
      simp only [cond_false] at h
      rw [if_neg (by simp)]
      exact ⟨fun _ _ => trivial, hnext _ s h ρ w _ hr (ha.put o.dst VR.undef) hd hQ⟩
    | true =>
      rw [hw] at h
      simp only [cond_true] at h
      rw [if_pos rfl]
      by_cases hdf : ∃ c, o.op = .defer c
      · obtain ⟨c, hc⟩ := hdf
        simp only [hc] at h
        cases hcl : opClosed T (.defer c) with
        | false => simp [hcl] at h
        | true =>
          simp only [hcl, Bool.not_true, cond_false] at h
          obtain ⟨d, hdd, h⟩ := Option.bind_eq_some_iff.1 h
          obtain ⟨hrd, f, g, first, captured, hcal, hf, rfl⟩ := adefer_eq hdd
          have hd0 := hd
          rw [hrd] at hd0
          have hro : ro = none := hd0
          subst hro
          have he := ha.evR (T := T) hr.glob hcl
          have hfv : VR ρ (a.eval f) (act.eval f) := he f (by simp [Op.operands, Call.operands, hcal])
          rw [hf] at hfv
          obtain ⟨first⟩ := first; obtain ⟨captured⟩ := captured
          obtain ⟨fn', f', c', hfn, h1, h2, h3⟩ := hfv
          cases hfn
          have hargs : VRL ρ (c.args.toList.map a.eval) (c.args.toList.map act.eval) := VRL.map _ _ _ (fun x hx => he x (by
            simp only [Op.operands, Call.operands, Array.toList_append, List.mem_append]; exact .inr hx))
          refine ⟨fun _ _ => trivial, ?_⟩
          have hrun : (o.semAt none act.eval).run P w = .ok (.defer { target := .fn (.func g) ⟨c'⟩, args := ⟨f'⟩ ++ c.args.map act.eval }) w := by
            rw [Oper.semAt_none]
            obtain ⟨dst, op, ty, pos, after, guard⟩ := o
            simp only at hc
            subst hc
            simp [execOp, resolve, hcal, h3, Deferred.ofValue]
          show o.uponIn (FF none) n P act _ Q ((o.semAt none act.eval).run P w)
          rw [hrun, Oper.uponIn_defer]
          have hA : AR ρ { a with defers := { target := .fn (.func g) ⟨captured⟩, args := ⟨first⟩ ++ c.args.map a.eval } :: a.defers } { act with defers := { target := .fn (.func g) ⟨c'⟩, args := ⟨f'⟩ ++ c.args.map act.eval } :: act.defers } := by
            refine ⟨ha.tmps, ?_⟩
            refine ⟨_, act.defers, ?_, ha.defers, rfl⟩
            exact ⟨c', h2, rfl, by simpa using h1.append hargs⟩
          exact hnext _ s h ρ w _ hr (hA.put o.dst VR.undef) hd hQ
      · have hnd : ∀ c, o.op ≠ .defer c := fun c e => hdf ⟨c, e⟩
        have h : (match aop T R o.op a.eval s with
          | some (v, s) => execOps T R rd ops l (a.put o.dst v) s
          | none => none) = some (a', s') := by
          revert h
          split
          · rename_i c e; exact absurd e (hnd c)
          · exact id
        split at h
        · rename_i v s1 hop
          obtain ⟨hcl, hop⟩ := aop_eq hop
          refine wp_goes hnd (goes_aop hT hr hC hE hop (ha.evR (T := T) hr.glob hcl)) ?_
          intro ρ1 v' w1 hv hp
          refine hnext _ s1 h ρ1 w1 _ hp.hr ((ha.mono hp.sub).put o.dst hv) (hd.mono hp.sub) ?_
          intro ρ' act' w' ha' hp'
          exact hQ ρ' act' w' ha' (hp.trans hp')
        · cases h

theorem region_ok (hT : T.Full P) {R : Rec} (hC : CallOk T P R.call) (hE : ExecOk T P R.exec) {rd : Option Nat} {ops : Array Oper} {a a' : AAct} {s s' : AS} (h : execOps T R rd ops ops.toList a s = some (a', s')) {ρ : Env} {w : World} {act : Act} {ro : Option Nat}
    (hr : HR T ρ N s w) (ha : AR ρ a act) (hd : RD ρ rd ro) {n id : Nat} {Q : Exit → Act → World → Prop} (hQ : ∀ ρ' act' w', AR ρ' a' act' → Post T N ρ s w ρ' s' w' → Q .normal act' w') :
    (Code.region id ops false).wpIn (FF ro) n P Q act w := by
  refine wpIn_region ?_
  have := execOps_ok hT hC hE ops.toList [] a a' s s' rfl h ρ w act ro hr ha hd n Q hQ
  simpa [List.range_eq_range'] using this
end

end Go.AM

