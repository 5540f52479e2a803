/-
  The machine, part 6 of 6: the machine is sound: what it computes of a call, the call does; the functions without a body; a program's tables.
-/
import Derived.Test.YthjlneaedajkmaaGreatDoorAm5
import Derived.Laws.Externs
import Derived.Lib.MakeNoZero
import Derived.Lib.Bytealg
import Derived.Laws.LoneSync
namespace Go

section
variable {P : Program} {F : Fence} {n : Nat} {b : Frame} {a : Act} {k : List Item} {cs : List Frame} {w : World} {Q : Exit → Act → World → Prop}

theorem stepR_scopeA {c : Code} : step P (lone (b.atR a (.code (.scope c) :: k)) cs w) = .next (lone (b.atR a (.code c :: .inScope c :: k)) cs w) :=
  step_lone_go (by simp [stepG, stepG.exec, Frame.atR])
theorem stepR_inScopeA {c : Code} : step P (lone (b.atR a (.inScope c :: k)) cs w) = .next (lone (b.atR a k) cs w) :=
  step_lone_go (by simp [stepG, stepG.exec, Frame.atR])

/-- Within a scope, jump by jump. -/
def jumpsInA (F : Fence) (n : Nat) (P : Program) (c : Code) (Q : Exit → Act → World → Prop) : Nat → Code → Act → World → Prop
  | 0, _, _, _ => False
  | d + 1, x, a, w => x.wpIn F n P (fun e a w => match e with
    | .goto l => match findLabel c l with
      | some rest => jumpsInA F n P c Q d rest a w
      | none => Q (.goto l) a w
    | e => Q e a w) a w

theorem wpIn_scopeA {c : Code} (d : Nat) (h : jumpsInA F n P c Q d c a w) : (Code.scope c).wpIn F n P Q a w := by
  intro b k cs hro hb hr
  have h0 : (lone (b.atR a (.code (.scope c) :: k)) cs w).fenced P F := fenced_calm hb hr rfl
  have key : ∀ d x a w, jumpsInA F n P c Q d x a w → ∃ e a' w', Q e a' w' ∧ ArrivesIn (Machine.fenced P F) P (lone (b.atR a (.code x :: .inScope c :: k)) cs w) b k cs e a' w' := by
    intro d
    induction d with
    | zero => intro x a w h; exact h.elim
    | succ d ih =>
      intro x a w h
      obtain ⟨e, a₁, w₁, hq, harr⟩ := h b (.inScope c :: k) cs hro hb hr
      cases e with
      | normal => exact ⟨.normal, a₁, w₁, hq, StepsIn.trans harr (.one (fenced_calm hb hr rfl) stepR_inScopeA)⟩
      | exit id =>
        have hx : exitTo id (.inScope c :: k) = exitTo id k := by simp [exitTo]
        exact ⟨.exit id, a₁, w₁, hq, fun k' hk => harr.1 k' (by rw [hx]; exact hk), fun hr' hk => harr.2 hr' (by rw [hx]; exact hk)⟩
      | goto l =>
        simp only at hq
        split at hq
        · rename_i rest hf
          obtain ⟨e₂, a₂, w₂, hq₂, harr₂⟩ := ih _ _ _ hq
          have hg : gotoIn l (.inScope c :: k) = some (.code rest :: .inScope c :: k) := by simp [gotoIn, hf]
          exact ⟨e₂, a₂, w₂, hq₂, .of_steps (harr.1 _ hg) harr₂⟩
        · rename_i hf
          have hx : gotoIn l (.inScope c :: k) = gotoIn l k := by simp [gotoIn, hf]
          exact ⟨.goto l, a₁, w₁, hq, fun k' hk => harr.1 k' (by rw [hx]; exact hk), fun hr' hk => harr.2 hr' (by rw [hx]; exact hk)⟩
      | ret => exact ⟨_, a₁, w₁, hq, harr⟩
      | panic ch => exact ⟨_, a₁, w₁, hq, harr⟩
      | outgrown => exact ⟨_, a₁, w₁, hq, harr⟩
  obtain ⟨e, a', w', hq, harr⟩ := key d c a w h
  exact ⟨e, a', w', hq, .of_steps (.one h0 stepR_scopeA) harr⟩
end

namespace AM
section
variable {T : Tab} {P : Program} {N : Nat}

/-- What is asked of code; of a loop: so many rounds. -/
def ExecGood (T : Tab) (P : Program) (ex : Option Nat → Code → AAct → AS → Option (Exit × AAct × AS)) : Prop :=
  ExecOk T P ex ∧ ∀ rd c a s e a' s', ex rd (.loop c) a s = some (e, a', s') → ∃ m, ∀ N ρ w act ro, HR T ρ N s w → AR ρ a act → RD ρ rd ro →
    ∀ n (Q : Exit → Act → World → Prop), (∀ ρ' act' w', AR ρ' a' act' → Post T N ρ s w ρ' s' w' → Q e act' w') → Code.roundsIn (FF ro) n P c Q m act w

def resF (tmps : Array Value) : ResultVar → Sem Value
  | .tmp t => pure (tmps.getD t undef)
  | .cell a t => do Go.loadVar t (← asAddr (tmps.getD a undef))

theorem results_eq (fn : Func) (tmps : Array Value) : results fn tmps = (do
    let vs ← fn.results.mapM (resF tmps)
    pure (if h : vs.size = 1 then vs[0] else .tuple vs)) := by
  unfold results
  congr 1

theorem results_list (hT : T.Ok P) {s : AS} {ρ : Env} {w : World} (hr : HR T ρ N s w) {tmps : List Value} {tmps' : Array Value} (ht : VRL ρ tmps tmps'.toList) : ∀ (rs : List ResultVar) (l : List Value), resultsA T s tmps rs = some l →
    ∃ l', (rs.mapM (m := Sem) (resF tmps')).run P w = .ok l' w ∧ VRL ρ l l' := by
  intro rs
  have hget : ∀ t, VR ρ (tmps.getD t undef) (tmps'.getD t undef) := fun t => by
    have := ht.getD t (d := undef) (d' := undef) VR.undef
    simpa using this
  induction rs with
  | nil => intro l h; cases h; exact ⟨[], by simp, rfl⟩
  | cons r rs ih =>
    intro l h
    cases r with
    | tmp t =>
      obtain ⟨l1, h1, rfl⟩ := Option.map_eq_some_iff.1 h
      obtain ⟨l', g1, g2⟩ := ih l1 h1
      refine ⟨_ :: l', ?_, _, l', hget t, g2, rfl⟩
      have hf : (resF tmps' (.tmp t)).run P w = .ok (tmps'.getD t undef) w := by simp [resF]
      rw [List.mapM_cons]
      simp only [Sem.run_bind, hf, Sem.run_pure, Result.andThen_ok, g1]
    | cell a t =>
      simp only [resultsA] at h
      split at h
      · rename_i p hp
        obtain ⟨v, hv, h⟩ := Option.bind_eq_some_iff.1 h
        obtain ⟨l1, h1, rfl⟩ := Option.map_eq_some_iff.1 h
        obtain ⟨l', g1, g2⟩ := ih l1 h1
        have ha := hget a
        rw [hp] at ha
        obtain ⟨b, hb, ha⟩ := ha
        obtain ⟨b', v', k1, k2, k3⟩ := run_loadVar (P := P) hT hr hv
        rw [hb] at k1; cases k1
        refine ⟨v' :: l', ?_, v', l', k3, g2, rfl⟩
        have hf : (resF tmps' (.cell a t)).run P w = .ok v' w := by
          unfold resF
          rw [Sem.run_bind, ha]
          simp [asAddr, k2]
        rw [List.mapM_cons]
        simp only [Sem.run_bind, hf, Sem.run_pure, Result.andThen_ok, g1]
      · cases h

theorem run_results (hT : T.Ok P) {s : AS} {ρ : Env} {w : World} (hr : HR T ρ N s w) {tmps : List Value} {tmps' : Array Value} (ht : VRL ρ tmps tmps'.toList) {fn : Func} {l : List Value} (h : resultsA T s tmps fn.results.toList = some l) :
    ∃ v', (results fn tmps').run P w = .ok v' w ∧ VR ρ (oneOf l) v' := by
  obtain ⟨l', h1, h2⟩ := results_list hT hr ht fn.results.toList l h
  have hm : (fn.results.mapM (m := Sem) (resF tmps')).run P w = .ok l'.toArray w := by
    rw [Array.mapM_eq_mapM_toList]
    simp only [map_eq_pure_bind, Sem.run_bind, h1, Result.andThen_ok, Sem.run_pure]
  have hone : ∀ (l l' : List Value), VRL ρ l l' → VR ρ (oneOf l) (if h : l'.toArray.size = 1 then l'.toArray[0] else .tuple l'.toArray) := by
    intro l l' h
    match l, l', h with
    | [], _, rfl => exact ⟨[], rfl, rfl⟩
    | [x], _, ⟨y, _, hx, rfl, rfl⟩ => exact hx
    | x :: y :: l, _, ⟨x', _, hx, ⟨y', l', hy, hl, rfl⟩, rfl⟩ =>
      rw [dif_neg (by simp)]
      exact ⟨_, ⟨x', _, hx, ⟨y', l', hy, hl, rfl⟩, rfl⟩, rfl⟩
  refine ⟨_, ?_, hone l l' h2⟩
  rw [results_eq, Sem.run_bind, hm]
  simp
end
end AM
end Go

namespace Go.AM
section
variable {T : Tab} {P : Program} {N : Nat}

theorem DRL.append {ρ : Env} {a a' b b' : List Deferred} (h : DRL ρ a a') (k : DRL ρ b b') : DRL ρ (a ++ b) (a' ++ b') := by
  induction a generalizing a' with
  | nil => cases h; exact k
  | cons x xs ih => obtain ⟨y, ys, h1, h2, rfl⟩ := h; exact ⟨y, _, h1, ih h2, rfl⟩

theorem start_rel {ρ : Env} {args args' : List Value} (h : VRL ρ args args') (n : Nat) :
    AR ρ ⟨args ++ List.replicate (n - args.length) undef, []⟩ { tmps := (⟨args'⟩ : Array Value) ++ Array.replicate (n - (⟨args'⟩ : Array Value).size) undef, defers := [] } := by
  refine ⟨?_, rfl⟩
  have e : ((⟨args'⟩ : Array Value) ++ Array.replicate (n - (⟨args'⟩ : Array Value).size) undef).toList = args' ++ List.replicate (n - args.length) undef := by
    simp [h.length]
  show VRL ρ _ ((⟨args'⟩ : Array Value) ++ Array.replicate (n - (⟨args'⟩ : Array Value).size) undef).toList
  rw [e]
  exact h.append (VRL.replicate _ VR.undef)

theorem run_takeDeferred {w : World} {r : Nat} (h : w.heap[r]? = some (.deferred (some []))) : (Instr.takeDeferred r).run P w = .ok [] { w with heap := w.heap.setIfInBounds r (.deferred none) } := by
  have h1 : (getObj r).run P w = .ok (.deferred (some [])) w := by simp [getObj, Sem.run, h]
  simp only [Instr.takeDeferred, Sem.run_bind, h1, Result.andThen_ok]
  rw [run_setObj h (by intro c e f he; cases he)]
  simp

theorem leave_ok (hT : T.Full P) {R : Rec} (hE : ExecOk T P R.exec) {fn : Func} {tmps : Array Value} {RR : Ending → World → Prop} {n : Nat} : ∀ (ds ds' : List Deferred) (s s' : AS) (ρ : Env) (w : World), leave T R ds s = some s' → HR T ρ N s w → DRL ρ ds ds' →
    (∀ ρ' w', Post T N ρ s w ρ' s' w' → ∃ v, (results fn tmps).run P w' = .ok v w' ∧ RR (.returned v) w') → LeavesInM (FF none) n P fn tmps RR ds' .returning w := by
  intro ds
  induction ds with
  | nil =>
    intro ds' s s' ρ w h hr hd hR
    cases hd; cases h
    exact hR ρ w (Post.refl hr)
  | cons d ds ih =>
    intro ds' s s' ρ w h hr hd hR
    obtain ⟨d', ds', hdr, hds, rfl⟩ := hd
    obtain ⟨tg, ar⟩ := d
    unfold leave at h
    simp only at h
    refine ⟨by simp, ?_⟩
    cases tg with
    | collected r =>
      left
      simp only at h
      split at h
      · cases h
      · rename_i hlim
        split at h
        · rename_i hk
          obtain ⟨r', hr1, hr2⟩ := hdr
          obtain ⟨b, ob, h1, h2, h3, _⟩ := hr.k.obj _ _ hk
          rw [hr1] at h1; cases h1
          have hob : ob = .deferred (some []) := h3
          subst hob
          have hp := hr.put (o' := .defs false) (ob' := .deferred none) hk (by omega) hr1 (Upd.setObj _ _) rfl trivial
          refine ⟨r', _, hr2, run_takeDeferred h2, ?_⟩
          exact ih ds' _ s' ρ _ h hp.hr (hds.mono (Sub.refl _)) fun ρ' w' hp' => hR ρ' w' (hp.trans hp')
        · cases h
    | fn f captured =>
      right
      cases f with
      | func g =>
        simp only at h
        split at h
        · rename_i gf hgf
          split at h
          · rename_i c hb
            obtain ⟨c', hc1, hc2, hc3⟩ := hdr
            have hargs : VRL ρ (ar.toList ++ captured.toList) (d'.args.toList ++ c') := hc3.append hc1
            have hP := hT.fn g gf hgf
            have hn := hT.named g gf hgf
            have harr : d'.args ++ (⟨c'⟩ : Array Value) = ⟨d'.args.toList ++ c'⟩ := by apply Array.ext'; simp
            refine ⟨fun h => absurd h (FF.depth none), .func g, ⟨c'⟩, g, ⟨d'.args.toList ++ c'⟩, hc2, ?_, fun _ _ => trivial, ?_⟩
            · rw [hc2]
              have h1 : gf.name ≠ "runtime.NumGoroutine" := by simpa using hn
              simp only [invoke, harr]
              simp [callFunc, hP, h1, hb]
            · have hcont : ∀ (e : Exit) (tm : List Value) (s1 : AS), (e = .normal ∨ e = .ret) → R.exec none c ⟨ar.toList ++ captured.toList ++ List.replicate (gf.ntmps - (ar.toList ++ captured.toList).length) undef, []⟩ s = some (e, ⟨tm, []⟩, s1) →
                  ((resultsA T s1 tm gf.results.toList).bind fun _ => leave T R ds s1) = some s' →
                  CallsDIn (FF none) (n - 1) P g ⟨d'.args.toList ++ c'⟩ .returning w fun
                    | .returned _, u', w' => LeavesInM (FF none) n P fn tmps RR ds' (settle u') w'
                    | .panicked chain, u', w' => LeavesInM (FF none) n P fn tmps RR ds' (raised u' chain) w'
                    | .outgrown, _, w' => RR .outgrown w' := by
                intro e tm s1 he hx hl
                obtain ⟨l, hl1, hl2⟩ := Option.bind_eq_some_iff.1 hl
                have hcall := callsDIn_of_wp (F := FF none) (n := n - 1) (P := P) (f := g) (fn := gf) (c := c) (args := ⟨d'.args.toList ++ c'⟩) (u := .returning) (w := w) (R := Ret fun _ w' => LeavesInM (FF none) n P fn tmps RR ds' .returning w') hP hb trivial (by
                  refine hE none c _ s e ⟨tm, []⟩ s1 hx N ρ w _ none hr (start_rel hargs gf.ntmps) rfl (n - 1) _ ?_
                  intro ρ1 act1 w1 ha1 hp1
                  obtain ⟨v', hv1, hv2⟩ := run_results hT.toOk hp1.hr ha1.tmps hl1
                  have hdn : act1.defers = [] := by have := ha1.defers; exact this
                  have hfin : act1.defers = [] ∧ ∃ v, (results gf act1.tmps).run P w1 = .ok v w1 ∧ Ret (fun _ w' => LeavesInM (FF none) n P fn tmps RR ds' .returning w') (.returned v) w1 :=
                    ⟨hdn, v', hv1, ih ds' s1 s' ρ1 w1 hl2 hp1.hr (hds.mono hp1.sub) fun ρ' w' hp' => hR ρ' w' (hp1.trans hp')⟩
                  rcases he with rfl | rfl
                  · exact hfin
                  · exact hfin)
                refine hcall.mono fun e' u' w' hh => ?_
                obtain ⟨rfl, hh⟩ := hh
                cases e' with
                | returned v => exact hh
                | panicked _ => exact hh.elim
                | outgrown => exact hh.elim
              split at h
              · rename_i tm s1 hx
                exact hcont .normal tm s1 (.inl rfl) hx h
              · rename_i tm s1 hx
                exact hcont .ret tm s1 (.inr rfl) hx h
              · cases h
          · cases h
        · cases h
      | method _ => cases h
      | yield _ => cases h
      | methodOf _ _ => cases h
      | via _ _ _ _ => cases h
    | _ => cases h

theorem call_ok (hT : T.Full P) {R : Rec} (hE : ExecOk T P R.exec) : CallOk T P (step T R).call := by
  intro f args s v s' h N ρ w args' hr ha r n
  simp only [step] at h
  split at h
  · rename_i fn hfn
    split at h
    · rename_i c hb
      have hP := hT.fn f fn hfn
      have hcont : ∀ (e : Exit) (a : AAct) (s1 : AS), (e = .normal ∨ e = .ret) → R.exec none c ⟨args ++ List.replicate (fn.ntmps - args.length) undef, []⟩ s = some (e, a, s1) →
          ((leave T R a.defers s1).bind fun s => (resultsA T s a.tmps fn.results.toList).map fun l => (oneOf l, s)) = some (v, s') →
          CallsIn (FF none) n P f ⟨args'⟩ w (Ends T N ρ s w v s') := by
        intro e a s1 he hx hl
        obtain ⟨s2, hl1, hl2⟩ := Option.bind_eq_some_iff.1 hl
        obtain ⟨l, hl3, hl4⟩ := Option.map_eq_some_iff.1 hl2
        cases hl4
        refine callsIn_of_wp_marks (F := FF none) hP hb trivial ?_
        refine hE none c _ s e a s1 hx N ρ w _ none hr (start_rel ha fn.ntmps) rfl n _ ?_
        intro ρ1 act1 w1 ha1 hp1
        have hfin : LeavesInM (FF none) n P fn act1.tmps (Ends T N ρ s w (oneOf l) s') act1.defers .returning w1 := by
          refine leave_ok hT hE a.defers act1.defers s1 s' ρ1 w1 hl1 hp1.hr ha1.defers ?_
          intro ρ2 w2 hp2
          obtain ⟨v', hv1, hv2⟩ := run_results hT.toOk hp2.hr (VRL.mono hp2.sub _ ha1.tmps) hl3
          exact ⟨v', hv1, ρ2, hv2, hp1.trans hp2⟩
        rcases he with rfl | rfl
        · exact hfin
        · exact hfin
      split at h
      · rename_i a s1 hx
        exact hcont .normal a s1 (.inl rfl) hx h
      · rename_i a s1 hx
        exact hcont .ret a s1 (.inr rfl) hx h
      · cases h
    · cases h
  · cases h
end
end Go.AM

namespace Go.AM
section
variable {T : Tab} {P : Program} {N : Nat}

theorem opnd_bool {T : Tab} {a : AAct} {c : Operand} {b : Bool} (h : a.eval c = .bool b) : opndClosed T c = true := by
  cases c with
  | tmp t => rfl
  | const v => simp only [AAct.eval] at h; subst h; rfl
  | global g => cases h
  | func f => rfl

theorem run_enterOuter {fn : FuncId} {tmps : Array Value} {ps : Array Tmp} {assign body : Code} {w : World} :
    (Instr.enterLoop fn tmps ps assign body none).run P w = .ok (w.heap.size + 1, [{ target := .collected w.heap.size, args := #[] }])
      { w with heap := (w.heap.push (.deferred (some []))).push (.loop { state := .ready, pending := none, fn := fn, tmps := tmps, params := ps, assign := assign, body := body, defers := w.heap.size }) } := by
  simp [Instr.enterLoop] <;> rfl
theorem run_enterInner {fn : FuncId} {tmps : Array Value} {ps : Array Tmp} {assign body : Code} {l : Nat} {r : Loop} {w : World} (h : w.heap[l]? = some (.loop r)) :
    (Instr.enterLoop fn tmps ps assign body (some l)).run P w = .ok (w.heap.size, [])
      { w with heap := w.heap.push (.loop { state := .ready, pending := none, fn := fn, tmps := tmps, params := ps, assign := assign, body := body, defers := r.defers }) } := by
  simp [Instr.enterLoop, run_getLoop h]

theorem run_endLoop {l : Nat} {r : Loop} {w : World} (h : w.heap[l]? = some (.loop r)) (hb : r.state ≠ .busy) :
    (Instr.endLoop l).run P w = .ok r.pending { w with heap := w.heap.setIfInBounds l (.loop { r with state := .exhausted }) } := by
  have hbeq : (r.state == .busy) = false := by
    cases hs : r.state <;> first | rfl | exact absurd hs hb
  simp only [Instr.endLoop, Sem.run_bind, run_getLoop h, Result.andThen_ok, hbeq]
  simp only [Bool.false_eq_true, if_false, Sem.run_pure, Result.andThen_ok, Sem.run_bind]
  rw [run_setObj h (by intro c e f he; cases he)]
  simp

theorem scope_ok {R : Rec} (hE : ExecOk T P R.exec) {rd ro : Option Nat} {c : Code} : ∀ (d : Nat) (x : Code) (a : AAct) (s : AS) (e : Exit) (a' : AAct) (s' : AS), scopeGo (R.exec rd) c d (R.exec rd x a s) = some (e, a', s') → ∀ ρ w act, HR T ρ N s w → AR ρ a act → RD ρ rd ro →
    ∀ n (Q : Exit → Act → World → Prop), (∀ ρ' act' w', AR ρ' a' act' → Post T N ρ s w ρ' s' w' → Q e act' w') → jumpsInA (FF ro) n P c Q d x act w := by
  intro d
  induction d with
  | zero => intro x a s e a' s' h; cases h
  | succ d ih =>
    intro x a s e a' s' h ρ w act hr ha hd n Q hQ
    unfold scopeGo at h
    unfold jumpsInA
    cases hx : R.exec rd x a s with
    | none => rw [hx] at h; cases h
    | some r =>
      obtain ⟨e1, a1, s1⟩ := r
      rw [hx] at h
      refine hE rd x a s e1 a1 s1 hx N ρ w act ro hr ha hd n _ ?_
      intro ρ1 act1 w1 ha1 hp1
      cases e1 with
      | goto l =>
        simp only at h ⊢
        split at h
        · rename_i rest hf
          rw [hf]
          exact ih rest a1 s1 e a' s' h ρ1 w1 act1 hp1.hr ha1 (hd.mono hp1.sub) n Q fun ρ' act' w' ha' hp' => hQ ρ' act' w' ha' (hp1.trans hp')
        · rename_i hf
          cases h
          rw [hf]
          exact hQ ρ1 act1 w1 ha1 hp1
      | _ =>
        cases h
        exact hQ ρ1 act1 w1 ha1 hp1

theorem rangeFunc_ok (hT : T.Full P) {R : Rec} (hC : CallOk T P R.call) (hE : ExecOk T P R.exec) {rd : Option Nat} {f : Operand} {ps : Array Tmp} {assign body : Code} {a : AAct} {s : AS} {e : Exit} {a' : AAct} {s' : AS}
    (h : (step T R).exec rd (.rangeFunc f ps assign body) a s = some (e, a', s')) {ρ : Env} {w : World} {act : Act} {ro : Option Nat} (hr : HR T ρ N s w) (ha : AR ρ a act) (hd : RD ρ rd ro) {n : Nat} {Q : Exit → Act → World → Prop} (hQ : ∀ ρ' act' w', AR ρ' a' act' → Post T N ρ s w ρ' s' w' → Q e act' w') :
    (Code.rangeFunc f ps assign body).wpIn (FF ro) n P Q act w := by
  -- the record is laid
  have fin : ∀ (r : Nat) (mark : List Deferred) (s1 : AS) (fnd : ∀ fn, ∃ (r' : Nat) (mark' : List Deferred) (ρ1 : Env) (w1 : World), Post T N ρ s w ρ1 s1 w1 ∧ ρ1 r = some r' ∧ DRL ρ1 mark mark' ∧
        (Instr.enterLoop fn act.tmps ps assign body ro).run P w = .ok (w1.heap.size, mark') { w1 with heap := w1.heap.push (.loop { state := .ready, pending := none, fn := fn, tmps := act.tmps, params := ps, assign := assign, body := body, defers := r' }) }),
      (match (bif opndClosed T f then a.eval f else .nilFunc) with
        | .func (.func g) first captured =>
          bif !((T.fn g).any fun fn => fn.body.isSome) then none else
          let l := s1.next
          match callF T R g (first.toList ++ [.func (.yield l) #[] #[]] ++ captured.toList) (s1.new (.loop .ready none a.tmps ps assign body r)) with
          | some (_, s2) => if l < s2.lim then none else match s2.heap.get l with
            | some (.loop st pending tmps ps assign body r) =>
              if st = .busy then none else
              let s3 := s2.put l (.loop .exhausted pending tmps ps assign body r)
              let a' : AAct := { a with defers := mark ++ a.defers }
              match pending with
              | none => some (.normal, a', s3)
              | some c => R.exec rd c a' s3
            | _ => none
          | none => none
        | _ => none) = some (e, a', s') → (Code.rangeFunc f ps assign body).wpIn (FF ro) n P Q act w := by
    intro r mark s1 fnd h
    cases hcl : opndClosed T f with
    | false => rw [hcl] at h; cases h
    | true =>
      rw [hcl] at h
      simp only [cond_true] at h
      split at h
      · rename_i g first captured hf
        cases hbd : ((T.fn g).any fun fn => fn.body.isSome) with
        | false => rw [hbd] at h; cases h
        | true =>
          rw [hbd] at h
          simp only [Bool.not_true, cond_false] at h
          cases hcall : callF T R g (first.toList ++ [.func (.yield s1.next) #[] #[]] ++ captured.toList) (s1.new (.loop .ready none a.tmps ps assign body r)) with
          | none => rw [hcall] at h; cases h
          | some x =>
            obtain ⟨v0, s2⟩ := x
            rw [hcall] at h
            simp only at h
            split at h
            · cases h
            · rename_i hlim
              split at h
              · rename_i st pending tmps2 ps2 assign2 body2 r2 hk2
                split at h
                · cases h
                · rename_i hst
                  refine wpIn_rangeFunc fun fn _ => ?_
                  obtain ⟨r', mark', ρ1, w1, hp1, hr1, hm1, hent⟩ := fnd fn
                  have hfv := ha.eval (T := T) hr.glob hcl
                  rw [hf] at hfv
                  obtain ⟨first⟩ := first; obtain ⟨captured⟩ := captured
                  obtain ⟨fn', f', c', hfn, q1, q2, q3⟩ := hfv
                  cases hfn
                  obtain ⟨gf, hgf, hgb⟩ := (Option.any_eq_true _ _).1 hbd
                  obtain ⟨gc, hgc⟩ := Option.isSome_iff_exists.1 hgb
                  -- the loop's record
                  have hp2 := hp1.hr.new (o := .loop .ready none a.tmps ps assign body r) (ob := .loop { state := .ready, pending := none, fn := fn, tmps := act.tmps, params := ps, assign := assign, body := body, defers := r' })
                    ⟨fn, act.tmps.toList, r', rfl, VRL.mono hp1.sub _ ha.tmps, hr1⟩ trivial { w1 with heap := w1.heap.push (.loop { state := .ready, pending := none, fn := fn, tmps := act.tmps, params := ps, assign := assign, body := body, defers := r' }) } rfl ⟨rfl, rfl, rfl⟩
                  have hpa := hp1.trans hp2
                  have hargs : VRL (upd ρ1 s1.next w1.heap.size) (first ++ [.func (.yield s1.next) #[] #[]] ++ captured) (f' ++ [.func (.yield w1.heap.size) #[] #[]] ++ c') :=
                    ((VRL.mono hpa.sub _ q1).append (show VRL (upd ρ1 s1.next w1.heap.size) [.func (.yield s1.next) #[] #[]] [.func (.yield w1.heap.size) #[] #[]] from
                      ⟨_, [], ⟨_, [], [], ⟨_, upd_self, rfl⟩, rfl, rfl, rfl⟩, rfl, rfl⟩)).append (VRL.mono hpa.sub _ q2)
                  obtain ⟨hcin, hrun⟩ := (goes_callF hT hp2.hr hC hcall hargs).2 gc gf hgf hgc
                  have hev : act.eval f = .func (.func g) ⟨f'⟩ ⟨c'⟩ := q3
                  obtain ⟨W, hW⟩ : ∃ W : World, W = { w1 with heap := w1.heap.push (.loop { state := .ready, pending := none, fn := fn, tmps := act.tmps, params := ps, assign := assign, body := body, defers := r' }) } := ⟨_, rfl⟩
                  rw [← hW] at hent hp2 hpa hcin hrun
                  refine ⟨w1.heap.size, mark', W, { target := .fn (.func g) ⟨c'⟩, args := ⟨f'⟩ ++ #[.func (.yield w1.heap.size) #[] #[]] }, W, g, ⟨f' ++ [.func (.yield w1.heap.size) #[] #[]] ++ c'⟩, W, hent, ?_, fun _ _ => trivial, ?_, fun h => absurd h (FF.depth ro), ?_⟩
                  · have hco : act.eval (.const (.func (.yield w1.heap.size) #[] #[])) = .func (.yield w1.heap.size) #[] #[] := rfl
                    have hma : (#[Operand.const (.func (.yield w1.heap.size) #[] #[])] : Array Operand).map act.eval = #[.func (.yield w1.heap.size) #[] #[]] := by simp [hco]
                    simp only [resolve, rangeCall, hma, hev, Deferred.ofValue, Sem.run_pure]
                  · have e : ((⟨f'⟩ : Array Value) ++ #[.func (.yield w1.heap.size) #[] #[]] ++ ⟨c'⟩) = ⟨f' ++ [.func (.yield w1.heap.size) #[] #[]] ++ c'⟩ := by apply Array.ext'; simp
                    simp only [invoke, e]
                    exact hrun
                  · refine (hcin ro (n - 1)).mono fun e' w3 he => ?_
                    cases e' with
                    | panicked _ => exact he.elim
                    | outgrown => exact he.elim
                    | returned v' =>
                      obtain ⟨ρ3, _, hp3⟩ := he
                      have hl3 : ρ3 s1.next = some w1.heap.size := hp3.sub _ _ upd_self
                      obtain ⟨fn2, tmps2', d2, hw2, htm2, hd2⟩ := loop_real hp3.hr hk2 hl3
                      have hpe := Post.loop (st2 := .exhausted) (pending2 := pending) (fn := fn2) hp3.hr hk2 (by omega) hl3 htm2 hd2
                      have hall := (hpa.trans hp3).trans hpe
                      refine ⟨pending, _, run_endLoop hw2 hst, ?_⟩
                      have ha3 : AR ρ3 { a with defers := mark ++ a.defers } { act with defers := mark' ++ act.defers } :=
                        ⟨VRL.mono hall.sub _ ha.tmps, (hm1.mono (hp2.sub.trans hp3.sub)).append (ha.defers.mono hall.sub)⟩
                      cases pending with
                      | none =>
                        simp only [Option.some.injEq, Prod.mk.injEq] at h
                        obtain ⟨rfl, rfl, rfl⟩ := h
                        exact hQ _ _ _ ha3 hall
                      | some c =>
                        simp only at h
                        exact hE rd c _ _ e a' s' h N ρ3 _ _ ro hpe.hr ha3 (hd.mono hall.sub) n Q fun ρ' act' w' ha' hp' => hQ ρ' act' w' ha' (hall.trans hp')
              · cases h
      · cases h
  simp only [step] at h
  cases rd with
  | none =>
    have hro : ro = none := hd
    subst hro
    refine fin s.next [{ target := .collected s.next, args := #[] }] (s.new (.defs true)) (fun fn => ?_) h
    have hp := hr.new (o := .defs true) (ob := .deferred (some [])) rfl trivial { w with heap := w.heap.push (.deferred (some [])) } rfl ⟨rfl, rfl, rfl⟩
    refine ⟨w.heap.size, [{ target := .collected w.heap.size, args := #[] }], _, _, hp, upd_self, ⟨_, [], ⟨w.heap.size, upd_self, rfl⟩, rfl, rfl⟩, ?_⟩
    rw [run_enterOuter]
    simp
  | some l =>
    obtain ⟨l', hl, rfl⟩ := hd
    simp only at h
    cases hk : s.heap.get l with
    | none => rw [hk] at h; cases h
    | some o =>
      rw [hk] at h
      cases o with
      | loop st pending tmps params asg bdy defers =>
        obtain ⟨fn0, tmps', d, hw, htm, hd0⟩ := loop_real hr hk hl
        exact fin defers [] s (fun fn => ⟨d, [], ρ, w, Post.refl hr, hd0, rfl, run_enterInner hw⟩) h
      | _ => cases h

theorem loop_ok {R : Rec} (hG : ExecGood T P R.exec) : ∀ rd c a s e a' s', (step T R).exec rd (.loop c) a s = some (e, a', s') → ∃ m, ∀ N ρ w act ro, HR T ρ N s w → AR ρ a act → RD ρ rd ro →
    ∀ n (Q : Exit → Act → World → Prop), (∀ ρ' act' w', AR ρ' a' act' → Post T N ρ s w ρ' s' w' → Q e act' w') → Code.roundsIn (FF ro) n P c Q m act w := by
  intro rd c a s e a' s' h
  simp only [step] at h
  cases hx : R.exec rd c a s with
  | none => rw [hx] at h; cases h
  | some r =>
    obtain ⟨e1, a1, s1⟩ := r
    rw [hx] at h
    cases e1 with
    | normal =>
      obtain ⟨m, hm⟩ := hG.2 rd c a1 s1 e a' s' h
      refine ⟨m + 1, fun N ρ w act ro hr ha hd n Q hQ => ?_⟩
      rw [roundsIn_succ]
      refine hG.1 rd c a s _ a1 s1 hx N ρ w act ro hr ha hd n _ ?_
      intro ρ1 act1 w1 ha1 hp1
      exact hm N ρ1 w1 act1 ro hp1.hr ha1 (hd.mono hp1.sub) n Q fun ρ' act' w' ha' hp' => hQ ρ' act' w' ha' (hp1.trans hp')
    | _ =>
      cases h
      refine ⟨1, fun N ρ w act ro hr ha hd n Q hQ => ?_⟩
      rw [roundsIn_succ]
      refine hG.1 rd c a s _ a' s' hx N ρ w act ro hr ha hd n _ ?_
      intro ρ1 act1 w1 ha1 hp1
      exact hQ ρ1 act1 w1 ha1 hp1

theorem exec_ok (hT : T.Full P) {R : Rec} (hC : CallOk T P R.call) (hG : ExecGood T P R.exec) : ExecGood T P (step T R).exec := by
  have hE := hG.1
  refine ⟨?_, loop_ok hG⟩
  intro rd c a s e a' s' h N ρ w act ro hr ha hd n Q hQ
  cases c with
  | skip => cases h; exact wpIn_skip (hQ _ _ _ ha (Post.refl hr))
  | label l => cases h; exact wpIn_label (hQ _ _ _ ha (Post.refl hr))
  | exit id => cases h; exact wpIn_exit (hQ _ _ _ ha (Post.refl hr))
  | goto l => cases h; exact wpIn_goto (hQ _ _ _ ha (Post.refl hr))
  | ret => cases h; exact wpIn_ret (hQ _ _ _ ha (Post.refl hr))
  | region id ops draw =>
    cases draw with
    | true =>
      obtain ⟨⟨a1, s1⟩, h1, h2⟩ := Option.map_eq_some_iff.1 (show (execDraw T R ops a s).map (fun x => (Exit.normal, x.1, x.2)) = some (e, a', s') from h)
      cases h2
      exact draw_ok hT hC hE h1 hr ha hQ
    | false =>
      obtain ⟨⟨a1, s1⟩, h1, h2⟩ := Option.map_eq_some_iff.1 (show (execOps T R rd ops ops.toList a s).map (fun x => (Exit.normal, x.1, x.2)) = some (e, a', s') from h)
      cases h2
      exact region_ok hT hC hE h1 hr ha hd hQ
  | seq x y =>
    refine wpIn_seq ?_
    simp only [step] at h
    cases hx : R.exec rd x a s with
    | none => rw [hx] at h; cases h
    | some r =>
      obtain ⟨e1, a1, s1⟩ := r
      rw [hx] at h
      refine hE rd x a s e1 a1 s1 hx N ρ w act ro hr ha hd n _ ?_
      intro ρ1 act1 w1 ha1 hp1
      cases e1 with
      | normal => exact hE rd y a1 s1 e a' s' h N ρ1 w1 act1 ro hp1.hr ha1 (hd.mono hp1.sub) n Q fun ρ' act' w' ha' hp' => hQ ρ' act' w' ha' (hp1.trans hp')
      | _ => cases h; exact hQ ρ1 act1 w1 ha1 hp1
  | cond c x y =>
    simp only [step] at h
    split at h
    · rename_i hc
      have hv := ha.eval (T := T) hr.glob (opnd_bool hc)
      rw [hc] at hv
      exact wpIn_cond_true hv (hE rd x a s e a' s' h N ρ w act ro hr ha hd n Q hQ)
    · rename_i hc
      have hv := ha.eval (T := T) hr.glob (opnd_bool hc)
      rw [hc] at hv
      exact wpIn_cond_false hv (hE rd y a s e a' s' h N ρ w act ro hr ha hd n Q hQ)
    · cases h
  | block id c =>
    refine wpIn_block ?_
    simp only [step] at h
    cases hx : R.exec rd c a s with
    | none => rw [hx] at h; cases h
    | some r =>
      obtain ⟨e1, a1, s1⟩ := r
      rw [hx] at h
      refine hE rd c a s e1 a1 s1 hx N ρ w act ro hr ha hd n _ ?_
      intro ρ1 act1 w1 ha1 hp1
      cases e1 with
      | exit id' =>
        simp only at h
        simp only [Exit.inBlock]
        split at h
        · rename_i hid; rw [if_pos hid]; cases h; exact hQ ρ1 act1 w1 ha1 hp1
        · rename_i hid; rw [if_neg hid]; cases h; exact hQ ρ1 act1 w1 ha1 hp1
      | _ => cases h; exact hQ ρ1 act1 w1 ha1 hp1
  | loop c =>
    obtain ⟨m, hm⟩ := loop_ok hG rd c a s e a' s' h
    exact wpIn_loop_rounds m (hm N ρ w act ro hr ha hd n Q hQ)
  | scope c =>
    exact wpIn_scopeA 4096 (scope_ok hE 4096 c a s e a' s' h ρ w act hr ha hd n Q hQ)
  | rangeFunc f ps assign body => exact rangeFunc_ok hT hC hE h hr ha hd hQ
  | _ => cases h

theorem it_ok (hT : T.Full P) : ∀ n, ExecGood T P (it T n).exec ∧ CallOk T P (it T n).call := by
  intro n
  induction n with
  | zero => exact ⟨⟨fun _ _ _ _ _ _ _ h => (by cases h), fun _ _ _ _ _ _ _ h => (by cases h)⟩, fun _ _ _ _ _ h => (by cases h)⟩
  | succ n ih => exact ⟨exec_ok hT ih.2 ih.1, call_ok hT ih.1.1⟩
end
end Go.AM

namespace Go.AM
section
variable {T : Tab} {P : Program} {N : Nat} {ρ : Env} {s : AS} {w : World}

theorem does_extern {k : FuncId} {fn : Func} {x : Array Value → Sem Value} (hf : P.funcs[k]? = some fn) (hname : (fn.name == "runtime.NumGoroutine") = false) (hb : fn.body.isNone = true) (hn : Extern.findNext fn = none) (he : Extern.find fn = some x)
    {args' : List Value} {v : Value} {s' : AS} (h : Gives T P N ρ s w (x ⟨args'⟩) v s') : Does T P N ρ s w (callFunc k ⟨args'⟩) v s' := by
  obtain ⟨ρ', v', w', h1, h2, h3⟩ := h
  refine ⟨ρ', .value v', v', w', ?_, .inl rfl, h2, h3⟩
  rw [run_callFunc_extern hf hname hb hn he, h1]
  rfl

theorem gives_noEscape (hr : HR T ρ N s w) {args args' : List Value} {v : Value} {s' : AS} (h : runExt T .noEscape args s = some (v, s')) (ha : VRL ρ args args') : Gives T P N ρ s w (Extern.AbiNoEscape.same ⟨args'⟩) v s' := by
  match args, h, ha with
  | [x], h, ha =>
    obtain ⟨x', _, h2, e1, e2⟩ := ha
    cases e1; cases e2
    have h : some (x, s) = some (v, s') := h
    cases h
    exact Gives.of_pure hr ⟨x', rfl, h2⟩

theorem gives_makeNoZero (hT : T.Ok P) (hr : HR T ρ N s w) {e : TypeId} {ps : Array TypeId} {t : TypeId} (hu : T.und t = some (.slice e)) (hs : AM.sizeOf T e = some 1) {args args' : List Value} {v : Value} {s' : AS} (h : runExt T (.makeNoZero e) args s = some (v, s')) (ha : VRL ρ args args') :
    Gives T P N ρ s w (Extern.BytealgMakeNoZero.makeNoZero ps #[t] ⟨args'⟩) v s' := by
  match args, h, ha with
  | [.int .i64 n], h, ha =>
    obtain ⟨x', _, h2, e1, e2⟩ := ha
    cases e1; cases e2; cases h2
    have h : (if 0 ≤ n ∧ n ≤ 1048576 then some (s.grownSlice n.toNat n.toNat, s.grown [] e n.toNat) else none) = some (v, s') := h
    split at h
    · rename_i hn
      cases h
      obtain ⟨m, rfl⟩ := Int.eq_ofNat_of_zero_le hn.1
      have hm : m ≤ 1048576 := by omega
      obtain ⟨cs, h1, h2, _⟩ := Lib.run_makeNoZero (P := P) w ps t e (hT.und t _ hu) m (by omega)
      obtain ⟨ρ', g1, g2⟩ := hr.grown (l := []) (c' := cs) (e := e) (lb := m) (k := cs.size) (size := 1) (len := m) ⟨[], _, rfl, rfl⟩ hs (by simp) h2 (Nat.lt_of_le_of_lt hm (by decide)) (w.drew.drew.alloc (.cells cs e)) rfl ⟨rfl, rfl, rfl⟩
      exact ⟨ρ', _, _, h1, g1, g2⟩
    · cases h

theorem byteAt_find (l : List UInt8) (c : UInt8) : ∀ (m : Nat) (k : Nat), byteAt l c k = match (List.range l.length).find? (fun i => l[i]! == c) with
    | some i => ((k + i : Nat) : Int)
    | none => -1 := by
  intro m
  induction l with
  | nil => intro k; rfl
  | cons x l ih =>
    intro k
    rw [show byteAt (x :: l) c k = if x = c then (k : Int) else byteAt l c (k + 1) from rfl, List.length_cons, List.range_succ_eq_map, List.find?_cons]
    by_cases hx : x = c
    · rw [if_pos hx]
      have : ((x :: l)[0]! == c) = true := by simp [hx]
      rw [this]; simp
    · rw [if_neg hx]
      have : ((x :: l)[0]! == c) = false := by simp [hx]
      rw [this]
      simp only [List.find?_map]
      rw [ih (k + 1)]
      have e : ((fun i => (x :: l)[i]! == c) ∘ Nat.succ) = fun i => l[i]! == c := by funext i; simp
      rw [e]
      cases (List.range l.length).find? (fun i => l[i]! == c) with
      | none => rfl
      | some i => show ((k + 1 + i : Nat) : Int) = ((k + (i + 1) : Nat) : Int); congr 1; omega

theorem find_congr {α : Type} {p q : α → Bool} : ∀ (l : List α), (∀ x ∈ l, p x = q x) → l.find? p = l.find? q
  | [], _ => rfl
  | x :: l, h => by
    rw [List.find?_cons, List.find?_cons, h x (by simp), find_congr l (fun y hy => h y (by simp [hy]))]

theorem firstIdx_byteAt (b : ByteArray) (c : UInt8) : firstIdx b c = byteAt b.data.toList c 0 := by
  rw [byteAt_find b.data.toList c 0 0]
  unfold firstIdx
  have hsz : b.data.toList.length = b.size := by rfl
  rw [hsz]
  have e : (List.range b.size).find? (fun i => b[i]! == c) = (List.range b.size).find? (fun i => b.data.toList[i]! == c) := by
    apply find_congr
    intro i hi
    rw [List.mem_range] at hi
    have : b[i]! = b.data.toList[i]! := by
      have h1 : b[i]! = b.data[i]! := by
        rw [getElem!_pos b i hi, getElem!_pos b.data i hi]; rfl
      rw [h1]
      have hi2 : i < b.data.size := hi
      rw [getElem!_pos b.data i hi2, getElem!_pos b.data.toList i (by simpa using hi2)]
      simp
    rw [this]
  rw [e]
  cases (List.range b.size).find? (fun i => b.data.toList[i]! == c) with
  | none => rfl
  | some i => simp

theorem gives_indexByte (hr : HR T ρ N s w) {args args' : List Value} {v : Value} {s' : AS} (h : runExt T .indexByteString args s = some (v, s')) (ha : VRL ρ args args') : Gives T P N ρ s w (Extern.BytealgIndexByte.indexByte ⟨args'⟩) v s' := by
  match args, h, ha with
  | [.string b, .int .u8 c], h, ha =>
    obtain ⟨x', _, h2, ⟨y', _, h3, e1, e2⟩, e3⟩ := ha
    cases e1; cases e2; cases e3; cases h2; cases h3
    have h : some (Value.int .i64 (byteAt b.data.toList (UInt8.ofNat c.toNat) 0), s) = some (v, s') := h
    cases h
    refine Gives.of_pure hr ⟨_, run_indexByte_string b c w, ?_⟩
    rw [firstIdx_byteAt]
    rfl

theorem gives_count (hr : HR T ρ N s w) {args args' : List Value} {v : Value} {s' : AS} (h : runExt T .countString args s = some (v, s')) (ha : VRL ρ args args') : Gives T P N ρ s w (Extern.BytealgCount.count ⟨args'⟩) v s' := by
  match args, h, ha with
  | [.string b, .int .u8 c], h, ha =>
    obtain ⟨x', _, h2, ⟨y', _, h3, e1, e2⟩, e3⟩ := ha
    cases e1; cases e2; cases e3; cases h2; cases h3
    have h : some (Value.int .i64 ((b.data.toList.filter (· == UInt8.ofNat c.toNat)).length : Nat), s) = some (v, s') := h
    cases h
    refine Gives.of_pure hr ⟨_, Lib.run_countString b c w, ?_⟩
    unfold Lib.countByte
    rw [List.count_eq_length_filter]
    rfl

theorem gives_typeOf (hr : HR T ρ N s w) {t rt : TypeId} {x : Array Value → Sem Value} (hto : ∀ v w, (x #[.iface t v]).run P w = .ok (.iface rt (.agg #[.pointer (some ⟨T.nglob, t, none⟩)])) w) {args args' : List Value} {v : Value} {s' : AS} (h : runExt T (.typeOf t rt) args s = some (v, s')) (ha : VRL ρ args args') : Gives T P N ρ s w (x ⟨args'⟩) v s' := by
  match args, h, ha with
  | [.iface t' y], h, ha =>
    obtain ⟨x', _, ⟨y', h2, rfl⟩, e1, e2⟩ := ha
    cases e1; cases e2
    have h : (if t' = t then some (Value.iface rt (.agg #[.pointer (some ⟨T.nglob, t, none⟩)]), s) else none) = some (v, s') := h
    split at h
    · rename_i ht
      subst ht
      cases h
      exact Gives.of_pure hr ⟨_, hto y' w, _, ⟨_, ⟨_, [], ⟨T.nglob, hr.glob _ (Nat.le_refl _), rfl⟩, rfl, rfl⟩, rfl⟩, rfl⟩
    · cases h

theorem gives_comparable (hr : HR T ρ N s w) {t : TypeId} {b : Bool} {x : Array Value → Sem Value} (hcm : ∀ w, (x #[.agg #[.pointer (some ⟨T.nglob, t, none⟩)]]).run P w = .ok (.bool b) w) {args args' : List Value} {v : Value} {s' : AS} (h : runExt T (.comparable t b) args s = some (v, s')) (ha : VRL ρ args args') : Gives T P N ρ s w (x ⟨args'⟩) v s' := by
  match args, h, ha with
  | [.agg ⟨[.pointer (some ⟨g, t', none⟩)]⟩], h, ha =>
    obtain ⟨x', _, ⟨cs', ⟨y, ys, ⟨g', hg, rfl⟩, e3, rfl⟩, rfl⟩, e1, e2⟩ := ha
    cases e1; cases e2; cases e3
    replace h : (if t' = t ∧ g = T.nglob then some (Value.bool b, s) else none) = some (v, s') := h
    by_cases ht : t' = t ∧ g = T.nglob
    · rw [if_pos ht] at h
      simp only [Option.some.injEq, Prod.mk.injEq] at h
      obtain ⟨h1, h2⟩ := h
      obtain ⟨e4, e5⟩ := ht
      subst h1 h2 e4 e5
      rw [hr.glob _ (Nat.le_refl _)] at hg
      cases hg
      exact Gives.of_pure hr ⟨_, hcm w, rfl⟩
    · rw [if_neg ht] at h; cases h
/-! ## reflectlite's entries, at given types -/
theorem look_mem {α : Type} {l : List (Nat × α)} {k : Nat} {v : α} (h : look l k = some v) : (k, v) ∈ l := by
  unfold look at h
  obtain ⟨p, hp, rfl⟩ := Option.map_eq_some_iff.1 h
  have h1 := List.find?_some hp
  have h2 := Nat.eq_of_beq_eq_true h1
  subst h2
  exact List.mem_of_find?_eq_some hp

theorem hd_rel (hr : HR T ρ N s w) {v v' : Value} {t : TypeId} (h : hd T v = some t) (hv' : VR ρ v v') : v' = hv T t := by
  unfold hd at h
  split at h
  · rename_i g t'
    rw [cond_eq_ite] at h
    split at h
    · rename_i hg
      have hg := Nat.eq_of_beq_eq_true hg
      subst hg
      cases h
      obtain ⟨b, hb, rfl⟩ := hv'
      rw [hr.glob _ (Nat.le_refl _)] at hb
      cases hb
      rfl
    · cases h
  · cases h

theorem vr_hv (hr : HR T ρ N s w) (t : TypeId) : VR ρ (hv T t) (hv T t) := ⟨T.nglob, hr.glob _ (Nat.le_refl _), rfl⟩
theorem vr_rtype (hr : HR T ρ N s w) (rt t : TypeId) : VR ρ (.iface rt (.agg #[hv T t])) (.iface rt (.agg #[hv T t])) :=
  ⟨_, ⟨_, ⟨_, _, vr_hv hr t, rfl, rfl⟩, rfl⟩, rfl⟩

theorem gives_valueOf (hr : HR T ρ N s w) {l : List (TypeId × Int)} {x : Array Value → Sem Value}
    (hx : ∀ t f, (t, f) ∈ l → ∀ v w, (x #[.iface t v]).run P w = .ok (.agg #[hv T t, .pointer (some ⟨w.heap.size, 0, none⟩), .int .u64 f]) { w with heap := w.heap.push (.cells v.cells t (0, 0)) })
    {args args' : List Value} {v : Value} {s' : AS} (h : runExt T (.valueOf l) args s = some (v, s')) (ha : VRL ρ args args') : Gives T P N ρ s w (x ⟨args'⟩) v s' := by
  match args, h, ha with
  | [.iface t y], h, ha =>
    obtain ⟨x', _, ⟨y', h2, rfl⟩, e1, e2⟩ := ha
    cases e1; cases e2
    obtain ⟨f, hf, h⟩ := Option.map_eq_some_iff.1 (show (look l t).map _ = _ from h)
    cases h
    have hp := hr.row t h2.cells
    exact ⟨_, _, _, hx t f (look_mem hf) y' w, ⟨_, ⟨_, _, vr_hv hp.hr t, ⟨_, _, ⟨w.heap.size, upd_self, rfl⟩, ⟨_, _, rfl, rfl, rfl⟩, rfl⟩, rfl⟩, rfl⟩, hp⟩

/-- A Value's three parts. -/
theorem rv_parts (hr : HR T ρ N s w) {h y : Value} {a : Addr} {f : Int} {t : TypeId} (hh : hd T h = some t) (hy : VR ρ (.agg ⟨[h, .pointer (some a), .int .u64 f]⟩) y) :
    ∃ b, ρ a.block = some b ∧ y = .agg #[hv T t, .pointer (some ⟨b, a.off, a.spot⟩), .int .u64 f] := by
  obtain ⟨cs, ⟨y1, ys1, h1, ⟨y2, ys2, ⟨b, hb, rfl⟩, ⟨y3, ys3, h3, e3, rfl⟩, rfl⟩, rfl⟩, rfl⟩ := hy
  cases e3; cases h3
  exact ⟨b, hb, by rw [hd_rel hr hh h1]⟩

theorem gives_rvType (hr : HR T ρ N s w) {rt : TypeId} {l : List (TypeId × Int)} {x : Array Value → Sem Value}
    (hx : ∀ t f, (t, f) ∈ l → ∀ a w, (x #[.agg #[hv T t, .pointer (some a), .int .u64 f]]).run P w = .ok (.iface rt (.agg #[hv T t])) w)
    {args args' : List Value} {v : Value} {s' : AS} (h : runExt T (.rvType rt l) args s = some (v, s')) (ha : VRL ρ args args') : Gives T P N ρ s w (x ⟨args'⟩) v s' := by
  match args, h, ha with
  | [.agg ⟨[h0, .pointer (some a), .int .u64 f]⟩], h, ha =>
    obtain ⟨x', _, hy, e1, e2⟩ := ha
    cases e1; cases e2
    obtain ⟨t, ht, h⟩ := Option.bind_eq_some_iff.1 (show (hd T h0).bind _ = _ from h)
    obtain ⟨f', hf, h⟩ := Option.bind_eq_some_iff.1 h
    split at h
    · rename_i e; subst e; cases h
      obtain ⟨b, hb, rfl⟩ := rv_parts hr ht hy
      exact Gives.of_pure hr ⟨_, hx t f (look_mem hf) _ w, vr_rtype hr rt t⟩
    · cases h

theorem gives_rvIsNil (hT : T.Ok P) (hr : HR T ρ N s w) {l : List (TypeId × Int)} {x : Array Value → Sem Value}
    (hx : ∀ t f, (t, f) ∈ l → ∀ a p w, (Go.loadVar t a).run P w = .ok (.pointer (some p)) w → (x #[.agg #[hv T t, .pointer (some a), .int .u64 f]]).run P w = .ok (.bool false) w)
    {args args' : List Value} {v : Value} {s' : AS} (h : runExt T (.rvIsNil l) args s = some (v, s')) (ha : VRL ρ args args') : Gives T P N ρ s w (x ⟨args'⟩) v s' := by
  match args, h, ha with
  | [.agg ⟨[h0, .pointer (some a), .int .u64 f]⟩], h, ha =>
    obtain ⟨x', _, hy, e1, e2⟩ := ha
    cases e1; cases e2
    obtain ⟨t, ht, h⟩ := Option.bind_eq_some_iff.1 (show (hd T h0).bind _ = _ from h)
    obtain ⟨f', hf, h⟩ := Option.bind_eq_some_iff.1 h
    split at h
    · rename_i e; subst e
      split at h
      · rename_i p hl
        cases h
        obtain ⟨b, hb, rfl⟩ := rv_parts hr ht hy
        obtain ⟨b2, v2, k1, k2, ⟨b3, k3, rfl⟩⟩ := run_loadVar hT hr hl
        rw [hb] at k1; cases k1
        exact Gives.of_pure hr ⟨_, hx t f (look_mem hf) _ _ w k2, rfl⟩
      · cases h
    · cases h

theorem gives_rvElem (hT : T.Ok P) (hr : HR T ρ N s w) {l : List (TypeId × Int × TypeId × Int)} {x : Array Value → Sem Value}
    (hx : ∀ t f e f2, (t, f, e, f2) ∈ l → ∀ a p w, (Go.loadVar t a).run P w = .ok (.pointer (some p)) w → (x #[.agg #[hv T t, .pointer (some a), .int .u64 f]]).run P w = .ok (.agg #[hv T e, .pointer (some p), .int .u64 f2]) w)
    {args args' : List Value} {v : Value} {s' : AS} (h : runExt T (.rvElem l) args s = some (v, s')) (ha : VRL ρ args args') : Gives T P N ρ s w (x ⟨args'⟩) v s' := by
  match args, h, ha with
  | [.agg ⟨[h0, .pointer (some a), .int .u64 f]⟩], h, ha =>
    obtain ⟨x', _, hy, e1, e2⟩ := ha
    cases e1; cases e2
    obtain ⟨t, ht, h⟩ := Option.bind_eq_some_iff.1 (show (hd T h0).bind _ = _ from h)
    obtain ⟨⟨f', e, f2⟩, hf, h⟩ := Option.bind_eq_some_iff.1 h
    split at h
    · rename_i e; subst e
      split at h
      · rename_i p hl
        cases h
        obtain ⟨b, hb, rfl⟩ := rv_parts hr ht hy
        obtain ⟨b2, v2, k1, k2, ⟨b3, k3, rfl⟩⟩ := run_loadVar hT hr hl
        rw [hb] at k1; cases k1
        exact Gives.of_pure hr ⟨_, hx t _ _ _ (look_mem hf) _ _ w k2, _, ⟨_, _, vr_hv hr _, ⟨_, _, ⟨b3, k3, rfl⟩, ⟨_, _, rfl, rfl, rfl⟩, rfl⟩, rfl⟩, rfl⟩
      · cases h
    · cases h

theorem gives_rvSet (hT : T.Ok P) (hr : HR T ρ N s w) {l : List (TypeId × Int × Int)} {x : Array Value → Sem Value}
    (hx : ∀ e f f2, (e, f, f2) ∈ l → ∀ a b v w w', (Go.loadVar e b).run P w = .ok v w → (Go.storeVar e a v).run P w = .ok () w' → (x #[.agg #[hv T e, .pointer (some a), .int .u64 f], .agg #[hv T e, .pointer (some b), .int .u64 f2]]).run P w = .ok (.tuple #[]) w')
    {args args' : List Value} {v : Value} {s' : AS} (h : runExt T (.rvSet l) args s = some (v, s')) (ha : VRL ρ args args') : Gives T P N ρ s w (x ⟨args'⟩) v s' := by
  match args, h, ha with
  | [.agg ⟨[h0, .pointer (some a), .int .u64 f]⟩, .agg ⟨[h1, .pointer (some b), .int .u64 f2]⟩], h, ha =>
    obtain ⟨x', _, hy, ⟨x2, _, hy2, e0, e1⟩, e2⟩ := ha
    cases e0; cases e1; cases e2
    obtain ⟨t, ht, h⟩ := Option.bind_eq_some_iff.1 (show (hd T h0).bind _ = _ from h)
    obtain ⟨t2, ht2, h⟩ := Option.bind_eq_some_iff.1 h
    obtain ⟨⟨g, g2⟩, hf, h⟩ := Option.bind_eq_some_iff.1 h
    split at h
    · rename_i e; obtain ⟨e1, e2, e3⟩ := e; simp only at e1 e2; subst e1 e2 e3
      obtain ⟨val, hl, h⟩ := Option.bind_eq_some_iff.1 h
      obtain ⟨s2, hs, h⟩ := Option.map_eq_some_iff.1 h
      cases h
      obtain ⟨b1, k1, rfl⟩ := rv_parts hr ht hy
      obtain ⟨b2, k2, rfl⟩ := rv_parts hr ht2 hy2
      obtain ⟨b3, v3, k3, k4, k5⟩ := run_loadVar hT hr hl
      rw [k2] at k3; cases k3
      obtain ⟨b4, w', k6, k7, k8⟩ := run_storeVar hT hr hs k5
      rw [k1] at k6; cases k6
      exact ⟨ρ, _, w', hx _ _ _ (look_mem hf) _ _ _ w w' k4 k7, ⟨_, rfl, rfl⟩, k8⟩
    · cases h

theorem gives_kinds (hr : HR T ρ N s w) {l : List (TypeId × Int)} {x : Array Value → Sem Value}
    (hx : ∀ t k, (t, k) ∈ l → ∀ w, (x #[hv T t]).run P w = .ok (.int .u8 k) w)
    {args args' : List Value} {v : Value} {s' : AS} (h : runExt T (.kinds l) args s = some (v, s')) (ha : VRL ρ args args') : Gives T P N ρ s w (x ⟨args'⟩) v s' := by
  match args, h, ha with
  | [h0], h, ha =>
    obtain ⟨x', _, hy, e1, e2⟩ := ha
    cases e1; cases e2
    have h : (hd T h0).bind (fun t => (look l t).map fun k => (Value.int .u8 k, s)) = some (v, s') := by rw [← h]; cases h0 <;> rfl
    obtain ⟨t, ht, h⟩ := Option.bind_eq_some_iff.1 h
    obtain ⟨k, hk, h⟩ := Option.map_eq_some_iff.1 h
    cases h
    rw [hd_rel hr ht hy]
    exact Gives.of_pure hr ⟨_, hx t k (look_mem hk) w, rfl⟩

theorem gives_rtElem (hr : HR T ρ N s w) {rt : TypeId} {l : List (TypeId × TypeId)} {x : Array Value → Sem Value}
    (hx : ∀ t e, (t, e) ∈ l → ∀ w, (x #[.agg #[hv T t]]).run P w = .ok (.iface rt (.agg #[hv T e])) w)
    {args args' : List Value} {v : Value} {s' : AS} (h : runExt T (.rtElem rt l) args s = some (v, s')) (ha : VRL ρ args args') : Gives T P N ρ s w (x ⟨args'⟩) v s' := by
  match args, h, ha with
  | [.agg ⟨[h0]⟩], h, ha =>
    obtain ⟨x', _, ⟨cs, ⟨y1, ys1, hy, e3, rfl⟩, rfl⟩, e1, e2⟩ := ha
    cases e1; cases e2; cases e3
    obtain ⟨t, ht, h⟩ := Option.bind_eq_some_iff.1 (show (hd T h0).bind _ = _ from h)
    obtain ⟨k, hk, h⟩ := Option.map_eq_some_iff.1 h
    cases h
    rw [hd_rel hr ht hy]
    exact Gives.of_pure hr ⟨_, hx t k (look_mem hk) w, vr_rtype hr rt k⟩

theorem gives_rtRel (hr : HR T ρ N s w) {l : List (TypeId × TypeId × Bool)} {x : Array Value → Sem Value}
    (hx : ∀ t u b, (t, u, b) ∈ l → ∀ rt w, (x #[.agg #[hv T t], .iface rt (.agg #[hv T u])]).run P w = .ok (.bool b) w)
    {args args' : List Value} {v : Value} {s' : AS} (h : runExt T (.rtRel l) args s = some (v, s')) (ha : VRL ρ args args') : Gives T P N ρ s w (x ⟨args'⟩) v s' := by
  match args, h, ha with
  | [.agg ⟨[h0]⟩, .iface rt (.agg ⟨[h1]⟩)], h, ha =>
    obtain ⟨x', _, ⟨cs, ⟨y1, ys1, hy, e3, rfl⟩, rfl⟩, ⟨x2, _, ⟨z, ⟨cs2, ⟨y2, ys2, hy2, e5, rfl⟩, rfl⟩, rfl⟩, e1, e4⟩, e2⟩ := ha
    cases e1; cases e4; cases e2; cases e3; cases e5
    obtain ⟨t, ht, h⟩ := Option.bind_eq_some_iff.1 (show (hd T h0).bind _ = _ from h)
    obtain ⟨u, hu, h⟩ := Option.bind_eq_some_iff.1 h
    obtain ⟨⟨u', b⟩, hk, h⟩ := Option.bind_eq_some_iff.1 h
    split at h
    · rename_i e; simp only at e; subst e
      cases h
      rw [hd_rel hr ht hy, hd_rel hr hu hy2]
      exact Gives.of_pure hr ⟨_, hx t _ _ (look_mem hk) rt w, rfl⟩
    · cases h

theorem gives_typeOfs (hr : HR T ρ N s w) {rt : TypeId} {l : List (TypeId × Unit)} {x : Array Value → Sem Value}
    (hx : ∀ t u, (t, u) ∈ l → ∀ v w, (x #[.iface t v]).run P w = .ok (.iface rt (.agg #[hv T t])) w)
    {args args' : List Value} {v : Value} {s' : AS} (h : runExt T (.typeOfs rt l) args s = some (v, s')) (ha : VRL ρ args args') : Gives T P N ρ s w (x ⟨args'⟩) v s' := by
  match args, h, ha with
  | [.iface t y], h, ha =>
    obtain ⟨x', _, ⟨y', h2, rfl⟩, e1, e2⟩ := ha
    cases e1; cases e2
    obtain ⟨k, hk, h⟩ := Option.map_eq_some_iff.1 (show (look l t).map _ = _ from h)
    cases h
    exact Gives.of_pure hr ⟨_, hx t k (look_mem hk) y' w, vr_rtype hr rt t⟩
/-! ## sync/atomic's entries, internal/race's marks -/
theorem gives_nothing (hr : HR T ρ N s w) {x : Array Value → Sem Value} (hx : ∀ w, (x #[]).run P w = .ok (.tuple #[]) w)
    {args args' : List Value} {v : Value} {s' : AS} (h : runExt T .nothing args s = some (v, s')) (ha : VRL ρ args args') : Gives T P N ρ s w (x ⟨args'⟩) v s' := by
  match args, h, ha with
  | [], h, ha =>
    cases ha
    have h : some (Value.tuple #[], s) = some (v, s') := h
    cases h
    exact Gives.of_pure hr ⟨_, hx w, _, rfl, rfl⟩

theorem gives_marked (hr : HR T ρ N s w) {x : Array Value → Sem Value} (hx : ∀ a w, (x #[.pointer (some a)]).run P w = .ok (.tuple #[]) w)
    {args args' : List Value} {v : Value} {s' : AS} (h : runExt T .marked args s = some (v, s')) (ha : VRL ρ args args') : Gives T P N ρ s w (x ⟨args'⟩) v s' := by
  match args, h, ha with
  | [.pointer (some p)], h, ha =>
    obtain ⟨x', _, ⟨b, hb, rfl⟩, e1, e2⟩ := ha
    cases e1; cases e2
    have h : some (Value.tuple #[], s) = some (v, s') := h
    cases h
    exact Gives.of_pure hr ⟨_, hx _ w, _, rfl, rfl⟩

theorem cell_of (hr : HR T ρ N s w) {p : Addr} {v0 : Value} (h : cellsAt s p 1 = some [v0]) :
    ∃ b v', ρ p.block = some b ∧ p.spot = none ∧ w.cell? ⟨b, p.off, none⟩ = some v' ∧ VR ρ v0 v' := by
  obtain ⟨b, c', e, fz, h1, h2, h3, h4, h5, h6⟩ := cellsAt_real hr h
  have hi : p.off < c'.size := by omega
  have hl' : p.off < c'.toList.length := by simpa using hi
  rw [List.drop_eq_getElem_cons hl', List.take_succ_cons] at h6
  obtain ⟨y, ys, h7, h8, h9⟩ := h6
  injection h9 with h9 _
  subst h9
  refine ⟨b, _, h1, h2, ?_, h7⟩
  have := cell?_at (off := p.off) h3 0
  simp [Addr.add] at this
  rw [this, Array.getElem?_eq_getElem hi]; simp

theorem put_of (hr : HR T ρ N s w) {p : Addr} {v1 v1' : Value} {s' : AS} (h : storeAt s p [v1] = some s') (hv : VR ρ v1 v1') {b : Nat} (hb : ρ p.block = some b) :
    w.frozen? ⟨b, p.off, none⟩ = false ∧ Post T N ρ s w ρ s' (w.setCell ⟨b, p.off, none⟩ v1') := by
  unfold storeAt at h
  simp only [cond_eq_ite] at h
  split at h
  · cases h
  split at h
  · cases h
  rename_i hlim
  have hlim : s.lim ≤ p.block := by simpa [Nat.blt_eq] using hlim
  split at h
  · split at h
    · rename_i c e g hk
      split at h
      · rename_i hle
        have hle : p.off + 1 ≤ c.length := Nat.le_of_ble_eq_true hle
        cases h
        obtain ⟨b', ob, h1, h2, ho, h5⟩ := hr.k.obj _ _ hk
        rw [hb] at h1; cases h1
        obtain ⟨c', fz, rfl, h3, h4⟩ := ho
        obtain ⟨hN, hf⟩ := h5 hlim
        have hvl : VRL ρ [v1] [v1'] := ⟨_, _, hv, rfl, rfl⟩
        have hsz : p.off < c'.size := by
          obtain ⟨hd, tl, e1, e2⟩ := h3
          have := e2.length
          have : c'.size = hd.length + tl.length := by rw [← Array.length_toList, e1]; simp
          omega
        refine ⟨?_, hr.put hk hlim hb (Upd.setCell h2 v1') ⟨c'.setIfInBounds p.off v1', fz, rfl, ?_, ?_⟩ (fun o ho => hf o (by simpa using ho))⟩
        · have := frozen?_at (off := p.off) h2 hf (i := 0) (by omega)
          simpa [Addr.add] using this
        · have := h3.splice hvl hle
          have e : (c'.setIfInBounds p.off v1').toList = AM.splice c'.toList p.off [v1'] := by
            rw [Array.toList_setIfInBounds]
            unfold AM.splice
            rw [List.set_eq_take_append_cons_drop, if_pos (by simpa using hsz)]
            simp
          rw [e]; exact this
        · intro cap hg
          obtain ⟨k, size, a1, a2, a3, a4, a5⟩ := h4 cap hg
          exact ⟨k, size, a1, a2, a3, a4, by simpa using a5⟩
      · cases h
    · cases h
  · cases h

section
variable {f : FuncId} {fn : Func} (hf : P.funcs[f]? = some fn) (hname : (fn.name == "runtime.NumGoroutine") = false) (hb : fn.body.isNone = true) (hn : Extern.findNext fn = none)
include hf hname hb hn
theorem does_load {k : IntKind} (he : Extern.find fn = some (Extern.Atomic.loadT (.int k))) (hr : HR T ρ N s w)
    {args args' : List Value} {v : Value} {s' : AS} (h : runExt T (.atomicLoad k) args s = some (v, s')) (ha : VRL ρ args args') : Does T P N ρ s w (callFunc f ⟨args'⟩) v s' := by
  match args, h, ha with
  | [.pointer (some p)], h, ha =>
    obtain ⟨x', _, ⟨b, hpb, rfl⟩, e1, e2⟩ := ha
    cases e1; cases e2
    replace h : (match cellsAt s p 1 with | some [.int k' n] => if k' = k then some (Value.int k n, s) else none | _ => none) = some (v, s') := h
    split at h
    · rename_i k' n hc
      split at h
      · rename_i e; subst e; cases h
        obtain ⟨b2, v', g1, g2, g3, g4⟩ := cell_of hr hc
        rw [hpb] at g1; cases g1; cases g4
        rw [show (⟨b, p.off, p.spot⟩ : Addr) = ⟨b, p.off, none⟩ by rw [g2]]
        exact ⟨ρ, _, _, w, run_call_load hf hname hb hn _ he g3, .inl rfl, rfl, Post.refl hr⟩
      · cases h
    · cases h

theorem does_store (he : Extern.find fn = some Extern.Atomic.storeT) (hr : HR T ρ N s w)
    {args args' : List Value} {v : Value} {s' : AS} (h : runExt T .atomicStore args s = some (v, s')) (ha : VRL ρ args args') : Does T P N ρ s w (callFunc f ⟨args'⟩) v s' := by
  match args, h, ha with
  | [.pointer (some p), .int k y], h, ha =>
    obtain ⟨x', _, ⟨b, hpb, rfl⟩, ⟨y', _, hy, e0, e1⟩, e2⟩ := ha
    cases e0; cases e1; cases e2; cases hy
    replace h : (match cellsAt s p 1 with | some [_] => (storeAt s p [.int k y]).map fun s => (Value.tuple #[], s) | _ => none) = some (v, s') := h
    split at h
    · rename_i v0 hc
      obtain ⟨s2, hs, h⟩ := Option.map_eq_some_iff.1 h
      cases h
      obtain ⟨b2, v', g1, g2, g3, g4⟩ := cell_of hr hc
      rw [hpb] at g1; cases g1
      obtain ⟨g5, g6⟩ := put_of hr hs (v1' := .int k y) rfl hpb
      rw [show (⟨b, p.off, p.spot⟩ : Addr) = ⟨b, p.off, none⟩ by rw [g2]]
      exact ⟨ρ, _, _, _, run_call_store hf hname hb hn he g3 g5, .inl rfl, ⟨_, rfl, rfl⟩, g6⟩
    · cases h

theorem does_add {k : IntKind} (he : Extern.find fn = some (Extern.Atomic.update (Op.intArith .add) k true)) (hr : HR T ρ N s w)
    {args args' : List Value} {v : Value} {s' : AS} (h : runExt T (.atomicAdd k) args s = some (v, s')) (ha : VRL ρ args args') : Does T P N ρ s w (callFunc f ⟨args'⟩) v s' := by
  match args, h, ha with
  | [.pointer (some p), .int k2 d], h, ha =>
    obtain ⟨x', _, ⟨b, hpb, rfl⟩, ⟨y', _, hy, e0, e1⟩, e2⟩ := ha
    cases e0; cases e1; cases e2; cases hy
    replace h : (match cellsAt s p 1 with
      | some [.int k' n] => if k' = k ∧ k2 = k then (storeAt s p [.int k (k.wrap (n + d))]).map fun s => (Value.int k (k.wrap (n + d)), s) else none
      | _ => none) = some (v, s') := h
    split at h
    · rename_i k' n hc
      split at h
      · rename_i e; obtain ⟨e, e2⟩ := e; subst e e2
        obtain ⟨s2, hs, h⟩ := Option.map_eq_some_iff.1 h
        cases h
        obtain ⟨b2, v', g1, g2, g3, g4⟩ := cell_of hr hc
        rw [hpb] at g1; cases g1; cases g4
        obtain ⟨g5, g6⟩ := put_of hr hs (v1' := .int k2 (k2.wrap (n + d))) rfl hpb
        rw [show (⟨b, p.off, p.spot⟩ : Addr) = ⟨b, p.off, none⟩ by rw [g2]]
        exact ⟨ρ, _, _, _, run_call_add hf hname hb hn _ he g3 g5 (by rfl), .inl rfl, rfl, g6⟩
      · cases h
    · cases h

theorem does_cas {k : IntKind} (he : Extern.find fn = some (Extern.Atomic.casT (.int k))) (hr : HR T ρ N s w)
    {args args' : List Value} {v : Value} {s' : AS} (h : runExt T (.atomicCas k) args s = some (v, s')) (ha : VRL ρ args args') : Does T P N ρ s w (callFunc f ⟨args'⟩) v s' := by
  match args, h, ha with
  | [.pointer (some p), .int k2 o, .int k3 y], h, ha =>
    obtain ⟨x', _, ⟨b, hpb, rfl⟩, ⟨y', _, hy, ⟨z', _, hz, e3, e0⟩, e1⟩, e2⟩ := ha
    cases e3; cases e0; cases e1; cases e2; cases hy; cases hz
    replace h : (match cellsAt s p 1 with
      | some [.int k' n] => if k' = k ∧ k2 = k ∧ k3 = k then (storeAt s p [.int k y]).bind fun s2 => if n = o then some (Value.bool true, s2) else some (.bool false, s) else none
      | _ => none) = some (v, s') := h
    split at h
    · rename_i k' n hc
      split at h
      · rename_i e; obtain ⟨e, e2, e3⟩ := e; subst e e2 e3
        obtain ⟨s2, hs, h⟩ := Option.bind_eq_some_iff.1 h
        obtain ⟨b2, v', g1, g2, g3, g4⟩ := cell_of hr hc
        rw [hpb] at g1; cases g1; cases g4
        obtain ⟨g5, g6⟩ := put_of hr hs (v1' := .int k3 y) rfl hpb
        rw [show (⟨b, p.off, p.spot⟩ : Addr) = ⟨b, p.off, none⟩ by rw [g2]]
        by_cases e : n = o
        · rw [if_pos e] at h
          simp only [Option.some.injEq, Prod.mk.injEq] at h
          obtain ⟨h1, h2⟩ := h
          subst e h1 h2
          exact ⟨ρ, _, _, _, run_call_cas_hit hf hname hb hn _ he g3 g5, .inl rfl, rfl, g6⟩
        · rw [if_neg e] at h
          simp only [Option.some.injEq, Prod.mk.injEq] at h
          obtain ⟨h1, h2⟩ := h
          subst h1 h2
          exact ⟨ρ, _, _, w, run_call_cas_miss hf hname hb hn _ he g3 g5 e, .inl rfl, rfl, Post.refl hr⟩
      · cases h
    · cases h
end
end
end Go.AM

/-! The tables of a program for the machine, and the state in which a call begins. -/
namespace Go.AM

noncomputable def Tr.ofList {α : Type} : List α → Nat → Tr α → Tr α
  | [], _, t => t
  | x :: xs, i, t => Tr.ofList xs (i + 1) (t.set 48 i (some x))
noncomputable def Tr.ofPairs {α : Type} : List (Nat × α) → Tr α
  | [] => .nil
  | (k, x) :: xs => (Tr.ofPairs xs).set 48 k (some x)

theorem ofList_get {α : Type} : ∀ (l : List α) (i : Nat) (t : Tr α) (k : Nat) (x : α), (Tr.ofList l i t).get k = some x → t.get k = some x ∨ ∃ j, l[j]? = some x ∧ k = i + j
  | [], _, _, _, _, h => .inl h
  | y :: ys, i, t, k, x, h => by
    rcases ofList_get ys (i + 1) (t.set 48 i (some y)) k x h with h | ⟨j, h1, h2⟩
    · rcases Tr.get_set _ _ _ _ _ _ h with ⟨e1, e2⟩ | ⟨_, e⟩
      · exact .inr ⟨0, by simpa using e2, by omega⟩
      · exact .inl e
    · exact .inr ⟨j + 1, by simpa using h1, by omega⟩
theorem ofList_get0 {α : Type} {l : List α} {k : Nat} {x : α} (h : (Tr.ofList l 0 .nil).get k = some x) : l[k]? = some x := by
  rcases ofList_get l 0 .nil k x h with h | ⟨j, h1, h2⟩
  · rw [Tr.get_nil] at h; cases h
  · rw [Nat.zero_add] at h2; rw [h2]; exact h1
theorem ofPairs_get {α : Type} : ∀ (l : List (Nat × α)) (k : Nat) (x : α), (Tr.ofPairs l).get k = some x → (k, x) ∈ l
  | [], k, x, h => by rw [show Tr.ofPairs ([] : List (Nat × α)) = .nil from rfl, Tr.get_nil] at h; cases h
  | (j, y) :: ys, k, x, h => by
    rcases Tr.get_set _ _ _ _ _ _ (show ((Tr.ofPairs ys).set 48 j (some y)).get k = some x from h) with ⟨e1, e2⟩ | ⟨_, e⟩
    · subst e1; cases e2; exact List.mem_cons_self
    · exact List.mem_cons_of_mem _ (ofPairs_get ys k x e)

noncomputable def undG (f : Nat → Option TypeInfo) (t : Nat) : Option TypeDesc := match f t with
  | some { desc := .named _ u, .. } => (f u).map (·.desc)
  | some i => some i.desc
  | none => none
noncomputable def undOf (tin : Tr TypeInfo) (t : Nat) : Option TypeDesc := undG tin.get t

theorem undG_mono {f g : Nat → Option TypeInfo} (h : ∀ t i, f t = some i → g t = some i) {t : Nat} {d : TypeDesc} (e : undG f t = some d) : undG g t = some d := by
  unfold undG at e ⊢
  cases ht : f t with
  | none => rw [ht] at e; cases e
  | some i =>
    rw [ht] at e; rw [h t i ht]
    split at e
    · rename_i heq
      cases heq
      obtain ⟨i2, h1, h2⟩ := Option.map_eq_some_iff.1 e
      simp [h _ i2 h1, h2]
    · rename_i hne heq
      cases heq
      exact e
    · rename_i heq; cases heq

theorem undOf_ok {P : Program} {tin : Tr TypeInfo} (hi : ∀ t i, tin.get t = some i → P.info? t = some i) {t : Nat} {d : TypeDesc} (h : undOf tin t = some d) : P.underlying t = some d :=
  undG_mono hi h

theorem full_of {P : Program} {T : Tab} (fns : List Func) (tys : List TypeInfo) (hf : P.funcs.toList = fns) (ht : P.types.toList = tys)
    (e1 : T.fn = (Tr.ofList fns 0 .nil).get) (e2 : T.info = (Tr.ofList tys 0 .nil).get) (e3 : T.und = undOf (Tr.ofList tys 0 .nil))
    (c1 : (tys.all fun i => match i.zero with | some z => closed z && Nat.beq z.cells.size i.size | none => true) = true)
    (c2 : (fns.all fun f => !(f.name == "runtime.NumGoroutine")) = true)
    (pl : List Nat) (e4 : T.plain = fun t => pl.any (Nat.beq t)) (c3 : (pl.all fun t => !P.stoodInHeld t && !P.eqGuardType P.depth t) = true)
    (nglob : T.nglob = P.globals.size) (depth : 0 < P.depth) (orders : P.follows .mixedOrders = true)
    (ext : ∀ k f x, P.funcs[k]? = some f → f.body = none → T.ext k = some x → ∀ args s v s', runExt T x args s = some (v, s') →
      ∀ N ρ w args', HR T ρ N s w → VRL ρ args args' → T.Ok P → Does T P N ρ s w (callFunc k ⟨args'⟩) v s')
    (sum : ∀ k g, T.sum k = some g → T.Ok P → CallOk T P fun k' args s => if k' = k then g args s else none) : T.Full P := by
  have hfn : ∀ k f, T.fn k = some f → P.funcs[k]? = some f := fun k f h => by
    rw [e1] at h
    have := ofList_get0 h
    rw [← hf] at this
    simpa using this
  have hin : ∀ t i, (Tr.ofList tys 0 .nil).get t = some i → P.info? t = some i := fun t i h => by
    have := ofList_get0 h
    rw [← ht] at this
    have h2 : P.types[t]? = some i := by simpa using this
    have hlt : t < P.types.size := (Array.getElem?_eq_some_iff.1 h2).1
    show Tables.info? P.toTables t = some i
    unfold Tables.info?
    rw [if_pos hlt]
    exact h2
  have hz : ∀ t i z, T.info t = some i → i.zero = some z → closed z = true ∧ z.cells.size = i.size := fun t i z h hz => by
    rw [e2] at h
    have hm := List.mem_of_getElem? (ofList_get0 h)
    have := List.all_eq_true.1 c1 i hm
    rw [hz] at this
    simp only [Bool.and_eq_true] at this
    exact ⟨this.1, Nat.eq_of_beq_eq_true this.2⟩
  have hok : T.Ok P :=
    { fn := hfn
      info := fun t i h => hin t i (by rw [e2] at h; exact h)
      zero := fun t i z h h2 => (hz t i z h h2).1
      zsize := fun t i z h h2 => (hz t i z h h2).2
      und := fun t d h => undOf_ok hin (by rw [e3] at h; exact h)
      plain := fun t h => by
        rw [e4] at h
        obtain ⟨x, hx, hb⟩ := List.any_eq_true.1 h
        have := List.all_eq_true.1 c3 x hx
        have e := Nat.eq_of_beq_eq_true hb
        subst e
        simpa using this
      nglob := nglob
      depth := depth
      orders := orders }
  exact
    { hok with
      named := fun k f h => by
        have := List.all_eq_true.1 c2 f (by
          have h2 := hfn k f h
          rw [← hf]
          exact Array.mem_toList_iff.2 (Array.mem_of_getElem? h2))
        simpa using this
      ext := fun k f x h hb he args s v s' hr N ρ w args' h1 h2 => ext k f x (hfn k f h) hb he args s v s' hr N ρ w args' h1 h2 hok
      sum := fun k f c g h hb hs => sum k g hs hok }

/-- The state in which a call begins, of some blocks known. -/
noncomputable def startS (l : List (Nat × AO)) (next : Nat) : AS := { heap := Tr.ofPairs l, next := next, lim := next }

theorem HR.start {T : Tab} {ρ : Env} {w : World} {l : List (Nat × AO)} {next : Nat} (hlt : ∀ p ∈ l, p.1 < next)
    (hobj : ∀ p ∈ l, ∃ b ob, ρ p.1 = some b ∧ w.heap[b]? = some ob ∧ OR T ρ p.2 ob)
    (hinj : ∀ p ∈ l, ∀ q ∈ l, ρ p.1 = ρ q.1 → p.1 = q.1)
    (hfresh : ∀ id, next ≤ id → ρ id = none) (hglob : ∀ g, g ≤ T.nglob → ρ g = some g) : HR T ρ w.heap.size (startS l next) w where
  k :=
    { obj := fun id o h => by
        have hm := ofPairs_get l id o h
        obtain ⟨b, ob, h1, h2, h3⟩ := hobj _ hm
        exact ⟨b, ob, h1, h2, h3, fun hle => absurd (hlt _ hm) (by simp only [startS] at hle; simp only; omega)⟩
      inj := fun id id' o o' b h h' h1 h2 => hinj _ (ofPairs_get l id o h) _ (ofPairs_get l id' o' h') (by simp only; rw [h1, h2])
      size := Nat.le_refl _ }
  fresh := hfresh
  glob := hglob
end Go.AM

