/-
  shown() of the atoms' statements returns true, wherever the listed variables read as the program's text lays them; nothing that was there before turns.
-/
import Derived.Test.YthjlneaedajkmaaGreatDoorRows
import Derived.Test.YthjlneaedajkmaaGreatDoorAm6
import Derived.LaidHandle
import Derived.LaidLaws
set_option linter.unusedVariables false
namespace Go.Proofs.YthjlneaedajkmaaGreatDoor.Shown
open Go Go.AM Go.RowKit Go.ChangeShapes

/-! ## The tables -/
noncomputable def extL : List (Nat × Ext) := [
  (50, .valueOf [(70, 150), (60, 153)]), (51, .rvType 135 [(70, 150)]), (52, .rvIsNil [(70, 150)]), (80, .rvElem [(70, 150, 60, 409)]), (81, .rvSet [(60, 409, 153)]),
  (79, .typeOfs 135 [(60, ()), (319, ())]), (208, .kinds [(70, 22), (60, 25)]), (219, .rtRel [(60, 60, true)]), (221, .rtElem 135 [(70, 60)]), (222, .rtRel [(60, 52, true)]),
  (150, .countString), (169, .indexByteString), (171, .atomicLoad .u32), (177, .atomicStore), (180, .atomicCas .i32), (185, .atomicAdd .i32),
  (179, .nothing), (181, .nothing), (182, .marked), (184, .marked)]
noncomputable def plainL : List Nat := [36, 46, 48, 64, 67, 86, 108, 111, 129, 131, 163, 166, 168, 179, 181, 184, 192, 194, 202, 211, 217, 220, 227, 231, 233, 235, 261, 263, 271, 35, 45, 47, 63, 66, 85, 107, 110, 128, 130, 162, 165, 167, 178, 180, 183, 191, 193, 201, 210, 216, 219, 226, 230, 232, 234, 260, 262, 270]
noncomputable def T : Tab where
  fn := (Tr.ofList Tryz.funcs.toList 0 .nil).get
  info := (Tr.ofList Tryz.progTables.types.toList 0 .nil).get
  und := undOf (Tr.ofList Tryz.progTables.types.toList 0 .nil)
  plain := fun t => plainL.any (Nat.beq t)
  ext := fun k => Go.AM.look extL k
  nglob := 10
  sum := fun _ => none
noncomputable def err (id off e : Nat) : AO := .cells [.iface 319 (.pointer (some ⟨id, off, none⟩))] e none
noncomputable def h0 (o e : Nat → Nat) : List (Nat × AO) := [(0, err 11 (o 0) (e 0)), (1, .cells [.iface 135 (.agg #[.pointer (some ⟨10, 52, none⟩)])] (e 1) none), (2, err 12 (o 2) (e 2)), (3, err 13 (o 3) (e 3)), (4, err 14 (o 4) (e 4)), (5, err 15 (o 5) (e 5)), (6, err 16 (o 6) (e 6)), (7, err 17 (o 7) (e 7)), (8, err 18 (o 8) (e 8))]
noncomputable def s0 (o e : Nat → Nat) : AS := startS (h0 o e) 20
noncomputable def ok : Option (Value × AS) → Bool | some (.bool true, _) => true | _ => false
theorem of_ok : ∀ {r : Option (Value × AS)}, ok r = true → ∃ s', r = some (.bool true, s')
  | some (.bool true, s'), _ => ⟨s', rfl⟩
  | some (.bool false, _), h => by cases h
  | none, h => by cases h
  | some (.int _ _, _), h => by cases h
  | some (.float _ _, _), h => by cases h
  | some (.complex _ _ _, _), h => by cases h
  | some (.string _, _), h => by cases h
  | some (.agg _, _), h => by cases h
  | some (.pointer _, _), h => by cases h
  | some (.slice _ _ _, _), h => by cases h
  | some (.map _, _), h => by cases h
  | some (.chan _, _), h => by cases h
  | some (.func _ _ _, _), h => by cases h
  | some (.nilFunc, _), h => by cases h
  | some (.iface _ _, _), h => by cases h
  | some (.nilIface, _), h => by cases h
  | some (.tuple _, _), h => by cases h

/-! ## reflectlite's entries at this program's types -/
theorem rlm (z : Sem Value) (f : TypeId → Addr → Nat → Nat → Sem Value) (v : Value) :
    Extern.ReflectliteValue.method z f #[v] = (do match ← Extern.ReflectliteValue.parts v with | none => z | some (t, a, fl) => f t a fl (fl % 32)) := rfl
theorem partsP (a : Addr) (w : World) : (Extern.ReflectliteValue.parts (.agg #[.pointer (some ⟨10, 70, none⟩), .pointer (some a), .int .u64 150])).run Tryz.prog w = .ok (some (70, a, 150)) w := by kernel_rfl
theorem partsE (a : Addr) (w : World) : (Extern.ReflectliteValue.parts (.agg #[.pointer (some ⟨10, 60, none⟩), .pointer (some a), .int .u64 409])).run Tryz.prog w = .ok (some (60, a, 409)) w := by kernel_rfl
theorem partsV (a : Addr) (w : World) : (Extern.ReflectliteValue.parts (.agg #[.pointer (some ⟨10, 60, none⟩), .pointer (some a), .int .u64 153])).run Tryz.prog w = .ok (some (60, a, 153)) w := by kernel_rfl
theorem elemOf (w : World) : (Extern.Rtype.elem? 70).run Tryz.prog w = .ok (some 60) w := by kernel_rfl
theorem mkE (p : Addr) (w : World) : (Extern.ReflectliteValue.mk 60 p Extern.ReflectliteValue.flagAddr).run Tryz.prog w = .ok (.agg #[.pointer (some ⟨10, 60, none⟩), .pointer (some p), .int .u64 409]) w := by kernel_rfl
theorem direct (w : World) : (Extern.Rtype.directlyAssignable 60 60).run Tryz.prog w = .ok true w := by kernel_rfl
theorem rls (v x : Value) : Extern.ReflectliteValue.set #[v, x] = (do
    let (some (dst, a, fl), some (src, b, _)) := (← Extern.ReflectliteValue.parts v, ← Extern.ReflectliteValue.parts x)
      | unsupported (.noEntry "extern/(internal/reflectlite.Value).Set.zeroValue")
    if fl / Extern.ReflectliteValue.flagAddr % 2 == 0 then unsupported (.noEntry "extern/(internal/reflectlite.Value).Set.unaddressable")
    let val ← loadVar src b
    if ← Extern.Rtype.directlyAssignable dst src then storeVar dst a val
    else if ← Extern.Rtype.implements dst src then
      if (← Extern.Rtype.kind src) == 20 then
        match val with
        | .nilIface => unsupported (.noEntry "extern/reflectlite: a nil value of one interface type handed on as a value of another")
        | _ => storeVar dst a val
      else storeVar dst a (.iface src val)
    else panicString ("reflectlite.Set: value of type " ++ (← Extern.Rtype.spelt src) ++ " is not assignable to type " ++ (← Extern.Rtype.spelt dst))
    pure (.tuple #[])) := rfl

set_option maxRecDepth 100000
theorem ext_ok : ∀ k f x, Tryz.prog.funcs[k]? = some f → f.body = none → T.ext k = some x → ∀ args s v s', runExt T x args s = some (v, s') →
      ∀ N ρ w args', HR T ρ N s w → VRL ρ args args' → T.Ok Tryz.prog → Does T Tryz.prog N ρ s w (callFunc k ⟨args'⟩) v s' := by
  intro k f x hf hb hx args s v s' h N ρ w args' hr ha hT
  have hm : (k, x) ∈ extL := look_mem hx
  simp only [extL, List.mem_cons, List.mem_nil_iff, or_false, Prod.mk.injEq] at hm
  rcases hm with ⟨rfl, rfl⟩ | ⟨rfl, rfl⟩ | ⟨rfl, rfl⟩ | ⟨rfl, rfl⟩ | ⟨rfl, rfl⟩ | ⟨rfl, rfl⟩ | ⟨rfl, rfl⟩ | ⟨rfl, rfl⟩ | ⟨rfl, rfl⟩ | ⟨rfl, rfl⟩ | ⟨rfl, rfl⟩ | ⟨rfl, rfl⟩ | ⟨rfl, rfl⟩ | ⟨rfl, rfl⟩ | ⟨rfl, rfl⟩ | ⟨rfl, rfl⟩ | ⟨rfl, rfl⟩ | ⟨rfl, rfl⟩ | ⟨rfl, rfl⟩ | ⟨rfl, rfl⟩
  · refine does_extern (x := fun args => Extern.ReflectliteValue.unpack (args.getD 0 (.tuple #[]))) Tryz.func50 (by kernel_rfl) (by kernel_rfl) (by kernel_rfl) (by kernel_rfl) (gives_valueOf (x := fun args => Extern.ReflectliteValue.unpack (args.getD 0 (.tuple #[]))) hr ?_ h ha)
    intro t f hm v w
    simp only [List.mem_cons, List.mem_nil_iff, or_false, Prod.mk.injEq] at hm
    rcases hm with ⟨rfl, rfl⟩ | ⟨rfl, rfl⟩ <;> kernel_rfl
  · refine does_extern (x := Extern.ReflectliteValue.methodAny (Extern.ReflectliteValue.valueError "reflectlite.Value.Type" 0) (fun t _ _ _ => Extern.ReflectliteType.toType t)) Tryz.func51 (by kernel_rfl) (by kernel_rfl) (by kernel_rfl) (by kernel_rfl) (gives_rvType hr ?_ h ha)
    intro t f hm a w
    simp only [List.mem_cons, List.mem_nil_iff, or_false, Prod.mk.injEq] at hm
    obtain ⟨rfl, rfl⟩ := hm
    kernel_rfl
  · refine does_extern (x := Extern.ReflectliteValue.method (Extern.ReflectliteValue.valueError "reflectlite.Value.IsNil" 0) Extern.ReflectliteValue.isNil) Tryz.func52 (by kernel_rfl) (by kernel_rfl) (by kernel_rfl) (by kernel_rfl) (gives_rvIsNil hT hr ?_ h ha)
    intro t f hm a p w hl
    simp only [List.mem_cons, List.mem_nil_iff, or_false, Prod.mk.injEq] at hm
    obtain ⟨rfl, rfl⟩ := hm
    rw [rlm]
    simp only [Sem.run_bind, show (Extern.ReflectliteValue.parts (.agg #[hv T 70, .pointer (some a), .int .u64 150])).run Tryz.prog w = _ from partsP a w, Result.andThen]
    simp [Extern.ReflectliteValue.isNil, hl, Result.andThen]
  · refine does_extern (x := Extern.ReflectliteValue.method (Extern.ReflectliteValue.valueError "reflectlite.Value.Elem" 0) Extern.ReflectliteValue.elem) Tryz.func80 (by kernel_rfl) (by kernel_rfl) (by kernel_rfl) (by kernel_rfl) (gives_rvElem hT hr ?_ h ha)
    intro t f e f2 hm a p w hl
    simp only [List.mem_cons, List.mem_nil_iff, or_false, Prod.mk.injEq] at hm
    obtain ⟨rfl, rfl, rfl, rfl⟩ := hm
    rw [rlm]
    simp only [Sem.run_bind, show (Extern.ReflectliteValue.parts (.agg #[hv T 70, .pointer (some a), .int .u64 150])).run Tryz.prog w = _ from partsP a w, Result.andThen]
    simp [Extern.ReflectliteValue.elem, hl, Result.andThen, elemOf, mkE]
    rfl
  · refine does_extern (x := Extern.ReflectliteValue.set) Tryz.func81 (by kernel_rfl) (by kernel_rfl) (by kernel_rfl) (by kernel_rfl) (gives_rvSet hT hr ?_ h ha)
    intro e f f2 hm a b v w w' hl hs
    simp only [List.mem_cons, List.mem_nil_iff, or_false, Prod.mk.injEq] at hm
    obtain ⟨rfl, rfl, rfl⟩ := hm
    rw [rls]
    simp only [Sem.run_bind, show (Extern.ReflectliteValue.parts (.agg #[hv T 60, .pointer (some a), .int .u64 409])).run Tryz.prog w = _ from partsE a w, show (Extern.ReflectliteValue.parts (.agg #[hv T 60, .pointer (some b), .int .u64 153])).run Tryz.prog w = _ from partsV b w, Result.andThen]
    simp [Extern.ReflectliteValue.flagAddr, hl, Result.andThen, direct, hs]
  · refine does_extern (x := Extern.ReflectliteType.typeOf) Tryz.func79 (by kernel_rfl) (by kernel_rfl) (by kernel_rfl) (by kernel_rfl) (gives_typeOfs hr ?_ h ha)
    intro t f hm v w
    simp only [List.mem_cons, List.mem_nil_iff, or_false, Prod.mk.injEq] at hm
    rcases hm with ⟨rfl, _⟩ | ⟨rfl, _⟩ <;> kernel_rfl
  · refine does_extern (x := Extern.ReflectliteType.abiMethod fun t => do pure (.int .u8 (← Extern.Rtype.kind t))) Tryz.func208 (by kernel_rfl) (by kernel_rfl) (by kernel_rfl) (by kernel_rfl) (gives_kinds hr ?_ h ha)
    intro t k hm w
    simp only [List.mem_cons, List.mem_nil_iff, or_false, Prod.mk.injEq] at hm
    rcases hm with ⟨rfl, rfl⟩ | ⟨rfl, rfl⟩ <;> kernel_rfl
  · refine does_extern (x := Extern.ReflectliteType.relation "AssignableTo" Extern.ReflectliteType.assignableTo) Tryz.func219 (by kernel_rfl) (by kernel_rfl) (by kernel_rfl) (by kernel_rfl) (gives_rtRel hr ?_ h ha)
    intro t u b hm rt w
    simp only [List.mem_cons, List.mem_nil_iff, or_false, Prod.mk.injEq] at hm
    obtain ⟨rfl, rfl, rfl⟩ := hm
    kernel_rfl
  · refine does_extern (x := Extern.ReflectliteType.method Extern.ReflectliteType.elem) Tryz.func221 (by kernel_rfl) (by kernel_rfl) (by kernel_rfl) (by kernel_rfl) (gives_rtElem hr ?_ h ha)
    intro t e hm w
    simp only [List.mem_cons, List.mem_nil_iff, or_false, Prod.mk.injEq] at hm
    obtain ⟨rfl, rfl⟩ := hm
    kernel_rfl
  · refine does_extern (x := Extern.ReflectliteType.relation "Implements" Extern.ReflectliteType.implements_) Tryz.func222 (by kernel_rfl) (by kernel_rfl) (by kernel_rfl) (by kernel_rfl) (gives_rtRel hr ?_ h ha)
    intro t u b hm rt w
    simp only [List.mem_cons, List.mem_nil_iff, or_false, Prod.mk.injEq] at hm
    obtain ⟨rfl, rfl, rfl⟩ := hm
    kernel_rfl
  · exact does_extern (x := Extern.BytealgCount.count) Tryz.func150 (by kernel_rfl) (by kernel_rfl) (by kernel_rfl) (by kernel_rfl) (gives_count hr h ha)
  · exact does_extern (x := Extern.BytealgIndexByte.indexByte) Tryz.func169 (by kernel_rfl) (by kernel_rfl) (by kernel_rfl) (by kernel_rfl) (gives_indexByte hr h ha)
  · exact does_load Tryz.func171 (by kernel_rfl) (by kernel_rfl) (by kernel_rfl) (by kernel_rfl) hr h ha
  · exact does_store Tryz.func177 (by kernel_rfl) (by kernel_rfl) (by kernel_rfl) (by kernel_rfl) hr h ha
  · exact does_cas Tryz.func180 (by kernel_rfl) (by kernel_rfl) (by kernel_rfl) (by kernel_rfl) hr h ha
  · exact does_add Tryz.func185 (by kernel_rfl) (by kernel_rfl) (by kernel_rfl) (by kernel_rfl) hr h ha
  · exact does_extern (x := fun _ => do mark .disable; pure Extern.Race.none_) Tryz.func179 (by kernel_rfl) (by kernel_rfl) (by kernel_rfl) (by kernel_rfl) (gives_nothing (x := fun _ => do mark .disable; pure Extern.Race.none_) hr (fun _ => rfl) h ha)
  · exact does_extern (x := fun _ => do mark .enable; pure Extern.Race.none_) Tryz.func181 (by kernel_rfl) (by kernel_rfl) (by kernel_rfl) (by kernel_rfl) (gives_nothing (x := fun _ => do mark .enable; pure Extern.Race.none_) hr (fun _ => rfl) h ha)
  · exact does_extern (x := Extern.Race.marked .acquire) Tryz.func182 (by kernel_rfl) (by kernel_rfl) (by kernel_rfl) (by kernel_rfl) (gives_marked hr (fun _ _ => rfl) h ha)
  · exact does_extern (x := Extern.Race.marked .releaseMerge) Tryz.func184 (by kernel_rfl) (by kernel_rfl) (by kernel_rfl) (by kernel_rfl) (gives_marked hr (fun _ _ => rfl) h ha)

theorem full : T.Full Tryz.prog :=
  full_of Tryz.funcs.toList Tryz.progTables.types.toList rfl rfl rfl rfl rfl (by kernel_rfl) (by kernel_rfl) plainL rfl (by kernel_rfl) (by kernel_rfl) (by unfold Program.depth; omega) (by kernel_rfl) ext_ok
    (fun k g h => by cases h)

/-! ## The state in which the call begins -/
theorem row319 (u : TypeId) (h : Tryz.prog.typeName? 3 u = some "*errors.errorString") : u = 319 :=
  typeName_ptr_named (nm := "errors.errorString") (by rw [show "*" ++ "errors.errorString" = "*errors.errorString" by decide]; kernel_rfl) (by kernel_rfl) (by decide) u (by rw [show "*" ++ "errors.errorString" = "*errors.errorString" by decide]; exact h)
theorem cells341 : Tryz.prog.cellsOf 341 = 1 := by kernel_rfl
theorem cells9 : Tryz.prog.cellsOf 9 = 1 := by kernel_rfl

theorem laidVars_mem {P : Program} {w : World} : ∀ {l : List (String × DataW Unit)} {ps : List MemPlace}, DataW.LaidVars P w l ps → ∀ x ∈ l, ∃ g t cs fuel p, P.globalNamed x.1 = some g ∧ (P.globals[g]?).map (·.type) = some t ∧ w.var? P x.1 = some cs ∧
    DataW.trod (fun _ => ()) P w 0 (fun _ => true) false fuel t cs.toList = some (x.2, p) ∧ ∀ q, q ∈ MemPlace.row ⟨g, 0, none⟩ cs.size → q ∈ ps
  | (n, d) :: r, ps, ⟨g, t, cs, fuel, p, q, h1, h2, h3, h4, h5, h6⟩, x, hx => by
    rcases List.mem_cons.1 hx with rfl | hx
    · exact ⟨g, t, cs, fuel, p, h1, h2, h3, h4, fun y hy => by rw [h6]; simp [hy]⟩
    · obtain ⟨g', t', cs', f', p', a1, a2, a3, a4, a5⟩ := laidVars_mem h5 x hx
      exact ⟨g', t', cs', f', p', a1, a2, a3, a4, fun y hy => by rw [h6]; simp [a5 y hy]⟩

/-- What the condition gives of a sentinel: its variable's block. -/
theorem sentinel {W : World} {l : List (String × DataW Unit)} (h : laidMet Tryz.prog l W) {n : String} {text : List UInt8} {g : Nat} {d : DataW Unit} (hx : (n, d) ∈ l) (hd : d = DataW.iface "*errors.errorString" (.ptr (.agg [.lit (.string text)])))
    (hg : Tryz.prog.globalNamed n = some g) (ht : (Tryz.prog.globals[g]?).map (·.type) = some 52) :
    ∃ b off e, W.heap[g]? = some (.cells #[.iface 319 (.pointer (some ⟨b, off, none⟩))] e (0, 0)) := by
  subst hd
  obtain ⟨ps, hv, _, hrows⟩ := h
  obtain ⟨g', t, cs, fuel, p, h1, h2, h3, h4, h5⟩ := laidVars_mem hv _ hx
  obtain rfl := Option.some.inj (hg.symm.trans h1)
  obtain rfl := Option.some.inj (ht.symm.trans h2)
  obtain ⟨l0⟩ := cs
  have ok0 : ∀ u v, l0 = [.iface u v] → Value.okWide Tryz.prog W .any 0 u v := fun u v e => by
    subst e
    exact (hrows g 0 (h5 _ (by simp [MemPlace.row]))).2 u v (by simpa using World.var?_cell h1 h3 0)
  obtain ⟨a, s, rfl, hc, _, _, _⟩ := errorString_of_trod Tryz.underlying52 row319 Tryz.underlying319 Tryz.underlying341 rfl rfl Tryz.underlying9 cells341 cells9 h4 ok0
  obtain ⟨c, t, hb⟩ := (hrows g 0 (h5 _ (by simp [MemPlace.row]))).1
  have hsp : a.spot = none := by
    obtain ⟨_, _, _, _, hs⟩ := World.shape?_of_cell? hc
    exact hs
  have hcs : c = #[.iface 319 (.pointer (some a))] := by
    unfold World.var? at h3
    rw [h1] at h3
    simp only [Option.bind_some, hb] at h3
    exact Option.some.inj h3
  obtain ⟨b, off, sp⟩ := a
  simp only at hsp
  subst hsp
  exact ⟨b, off, t, by rw [hb, hcs]⟩

/-- What the condition gives of a type's handle. -/
theorem handle {W : World} {hs : List (String × DataW Unit)} (h : handlesMet Tryz.prog hs W) (hx : ("errors.errorType", Rows.laid_errors_errorType) ∈ hs) :
    ∃ e fz, W.heap[1]? = some (.cells #[.iface 135 (.agg #[.pointer (some ⟨10, 52, none⟩)])] e fz) := by
  obtain ⟨name, u, ty, e1, e2, e3, e4, e5⟩ := h _ hx
  have en : name = [101, 114, 114, 111, 114] := (Option.some.inj e1).symm
  subst en
  obtain rfl := Option.some.inj ((show (Tryz.prog.cutTypes.find? (·.1 == "internal/reflectlite.rtype")).map (·.2) = some 135 by kernel_rfl).symm.trans e2)
  have hm : ty ∈ (List.range Tryz.prog.types.size).filter fun t => Tryz.prog.rowNamed t [101, 114, 114, 111, 114] := List.mem_filter.2 ⟨List.mem_range.2 e3, e4⟩
  rw [show ((List.range Tryz.prog.types.size).filter fun t => Tryz.prog.rowNamed t [101, 114, 114, 111, 114]) = [52] by kernel_rfl] at hm
  obtain rfl := List.mem_singleton.1 hm
  rw [show typeHandle Tryz.prog 52 = .pointer (some ⟨10, 52, none⟩) by kernel_rfl] at e5
  unfold World.var? at e5
  rw [show Tryz.prog.globalNamed "errors.errorType" = some 1 by kernel_rfl] at e5
  simp only [Option.bind_some] at e5
  split at e5
  · rename_i cs e fz hb
    cases Option.some.inj e5
    exact ⟨e, fz, hb⟩
  · cases e5
end Go.Proofs.YthjlneaedajkmaaGreatDoor.Shown
