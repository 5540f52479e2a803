/-
  The machine, part 3 of 6: its memory, maps, slices do as the program's do.
-/
import Derived.Test.YthjlneaedajkmaaGreatDoorAm2
import Derived.Laws.Append
namespace Go.AM

section
variable {T : Tab} {P : Program} {N : Nat} {ρ : Env} {s : AS} {w : World}

theorem cell?_at {b off : Nat} {c : Array Value} {e : TypeId} {fz : Nat × Nat} (h : w.heap[b]? = some (.cells c e fz)) (i : Nat) : w.cell? ((⟨b, off, none⟩ : Addr).add i) = c[off + i]? := by
  unfold Addr.add
  split
  · rename_i h0; subst h0; simp [World.cell?, h]
  · simp [World.cell?, h]

theorem run_loadCellsFrom {b off : Nat} {c : Array Value} {e : TypeId} {fz : Nat × Nat} (h : w.heap[b]? = some (.cells c e fz)) : ∀ (n i : Nat) (acc : Array Value), off + i + n ≤ c.size →
    (loadCellsFrom ⟨b, off, none⟩ i n acc).run P w = .ok (acc ++ ((c.toList.drop (off + i)).take n).toArray) w
  | 0, i, acc, _ => by simp [loadCellsFrom]
  | n + 1, i, acc, hn => by
    have hi : off + i < c.size := by omega
    have hc := cell?_at (off := off) h i
    rw [Array.getElem?_eq_getElem hi] at hc
    simp only [loadCellsFrom, Sem.run_bind, run_load, hc, Result.andThen_ok]
    rw [run_loadCellsFrom h n (i + 1) _ (by omega)]
    congr 1
    have hl : off + i < c.toList.length := by simpa using hi
    rw [List.drop_eq_getElem_cons hl, List.take_succ_cons]
    apply Array.ext'
    simp [Nat.add_assoc]

theorem run_loadCells {b off n : Nat} {c : Array Value} {e : TypeId} {fz : Nat × Nat} (h : w.heap[b]? = some (.cells c e fz)) (hn : off + n ≤ c.size) :
    (Go.loadCells ⟨b, off, none⟩ n).run P w = .ok ((c.toList.drop off).take n).toArray w := by
  have := run_loadCellsFrom (P := P) (off := off) h n 0 #[] (by omega)
  simpa [Go.loadCells] using this

/-- Cells that the state knows. -/
theorem cellsAt_real (hr : HR T ρ N s w) {a : Addr} {n : Nat} {l : List Value} (h : cellsAt s a n = some l) :
    ∃ b c' e fz, ρ a.block = some b ∧ a.spot = none ∧ w.heap[b]? = some (.cells c' e fz) ∧ a.off + n ≤ c'.size ∧ l.length = n ∧ VRL ρ l ((c'.toList.drop a.off).take n) := by
  unfold cellsAt at h
  rw [cond_eq_ite] at h
  split at h
  · cases h
  · rename_i hs
    have hsp : a.spot = none := by cases hq : a.spot <;> simp_all
    split at h
    · rename_i c e g hk
      simp only [cond_eq_ite] at h
      split at h
      · rename_i hl
        have hle : a.off + n ≤ c.length := Nat.le_of_ble_eq_true hl
        cases h
        obtain ⟨b, ob, h1, h2, ⟨c', fz, rfl, ⟨hd, tl, e1, e2⟩, _⟩, _⟩ := hr.k.obj _ _ hk
        have hlen := e2.length
        have hsz : c'.size = hd.length + tl.length := by rw [← Array.length_toList, e1]; simp
        refine ⟨b, c', e, fz, h1, hsp, h2, by omega, by simp; omega, ?_⟩
        rw [e1, List.drop_append_of_le_length (by omega), List.take_append_of_le_length (by simp; omega)]
        exact (e2.drop a.off).take n
      · cases h
    · cases h

theorem run_loadVar (hT : T.Ok P) (hr : HR T ρ N s w) {t : TypeId} {a : Addr} {v : Value} (h : AM.loadVar T s t a = some v) :
    ∃ b v', ρ a.block = some b ∧ (Go.loadVar t ⟨b, a.off, a.spot⟩).run P w = .ok v' w ∧ VR ρ v v' := by
  unfold AM.loadVar at h
  split at h
  · rename_i ha
    obtain ⟨n, hn, h⟩ := Option.bind_eq_some_iff.1 h
    obtain ⟨l, hl, rfl⟩ := Option.map_eq_some_iff.1 h
    obtain ⟨b, c', e, fz, h1, h2, h3, h4, h5, h6⟩ := cellsAt_real hr hl
    refine ⟨b, .agg ((c'.toList.drop a.off).take n).toArray, h1, ?_, _, h6, rfl⟩
    rw [h2]
    simp [Go.loadVar, run_isAgg hT ha, run_sizeOf hT hn, run_loadCells (P := P) h3 h4]
  · rename_i ha
    obtain ⟨l, hl, h⟩ := Option.bind_eq_some_iff.1 h
    obtain ⟨b, c', e, fz, h1, h2, h3, h4, h5, h6⟩ := cellsAt_real hr hl
    have hi : a.off < c'.size := by omega
    have hl' : a.off < c'.toList.length := by simpa using hi
    rw [List.drop_eq_getElem_cons hl', List.take_succ_cons] at h6
    cases l with
    | nil => simp at h
    | cons x xs =>
      simp at h; subst h
      obtain ⟨y, ys, h7, h8, h9⟩ := h6
      injection h9 with h9 _
      subst h9
      have hc : w.cell? ⟨b, a.off, a.spot⟩ = some (c'.toList[a.off]) := by
        rw [h2]
        have := cell?_at (off := a.off) h3 0
        simp [Addr.add] at this
        rw [this, Array.getElem?_eq_getElem hi]; simp
      exact ⟨b, c'.toList[a.off], h1, by simp [Go.loadVar, run_isAgg hT ha, hc], h7⟩
  · cases h

/-! ## Stores -/
theorem Upd.setCell {b off : Nat} {c : Array Value} {e : TypeId} {fz : Nat × Nat} (h : w.heap[b]? = some (.cells c e fz)) (v : Value) :
    Upd w (w.setCell ⟨b, off, none⟩ v) b (.cells (c.setIfInBounds off v) e fz) := by
  refine ⟨by simp [World.setCell], fun hb => ?_, fun i hi => ?_, ⟨rfl, rfl, rfl⟩⟩
  · simp [World.setCell, Array.getElem?_modify, h]
  · simp only [World.setCell, Array.getElem?_modify]
    rw [if_neg (fun h => hi h.symm)]

theorem Upd.trans {w1 w2 : World} {b : Nat} {o1 o2 : Obj} (h : Upd w w1 b o1) (k : Upd w1 w2 b o2) : Upd w w2 b o2 :=
  ⟨k.size.trans h.size, fun hb => k.at_ (by rw [h.size]; exact hb), fun i hi => (k.other i hi).trans (h.other i hi), h.env.trans k.env⟩

theorem frozen?_at {b off : Nat} {c : Array Value} {e : TypeId} {fz : Nat × Nat} (h : w.heap[b]? = some (.cells c e fz)) (hf : unfrozen (.cells c e fz)) {i : Nat} (hi : off + i < c.size) :
    w.frozen? ((⟨b, off, none⟩ : Addr).add i) = false := by
  have := hf (off + i) hi
  have hadd : ((⟨b, off, none⟩ : Addr).add i).block = b ∧ ((⟨b, off, none⟩ : Addr).add i).off = off + i := by
    unfold Addr.add; split
    · rename_i h0; subst h0; simp
    · simp
  simp only [World.frozen?, hadd.1, hadd.2, h]
  obtain ⟨lo, hi'⟩ := fz
  simp only at this ⊢
  by_cases h1 : lo ≤ off + i <;> by_cases h2 : off + i < hi' <;> simp_all

/-- A list with a part of it turned. -/
def splice (l : List Value) (k : Nat) (vs : List Value) : List Value := l.take k ++ (vs ++ l.drop (k + vs.length))
theorem splice_nil (l : List Value) (k : Nat) : splice l k [] = l := by simp [splice]
theorem splice_cons (l : List Value) (k : Nat) (v : Value) (vs : List Value) (h : k < l.length) : splice (l.set k v) (k + 1) vs = splice l k (v :: vs) := by
  unfold splice
  have h1 : (l.set k v).take (k + 1) = l.take k ++ [v] := by
    rw [List.take_succ_eq_append_getElem (by simpa using h)]
    simp [List.take_set_of_le]
  have h2 : (l.set k v).drop (k + 1 + vs.length) = l.drop (k + (v :: vs).length) := by
    rw [List.drop_set_of_lt (by omega)]
    congr 1
    simp; omega
  rw [h1, h2]; simp

theorem run_storeCells (P : Program) {b off : Nat} {e : TypeId} {fz : Nat × Nat} : ∀ (vs : List Value) (i : Nat) (w : World) (c : Array Value), w.heap[b]? = some (.cells c e fz) → unfrozen (.cells c e fz) → off + i + vs.length ≤ c.size → (∀ v ∈ vs, v.oneCell' = true) →
    ∃ w' c', (Go.storeCells ⟨b, off, none⟩ vs i).run P w = .ok () w' ∧ Upd w w' b (.cells c' e fz) ∧ c'.toList = splice c.toList (off + i) vs ∧ c'.size = c.size
  | [], i, w, c, h, hf, hn, hv => by
    refine ⟨w, c, rfl, ⟨rfl, fun _ => h, fun _ _ => rfl, Same.refl _⟩, (splice_nil _ _).symm, rfl⟩
  | v :: vs, i, w, c, h, hf, hn, hv => by
    have hi : off + i < c.size := by simp at hn; omega
    have hadd : ((⟨b, off, none⟩ : Addr).add i) = ⟨b, off + i, none⟩ := by unfold Addr.add; split <;> simp_all
    have hu := Upd.setCell (off := off + i) h v
    have hb : b < w.heap.size := by
      rcases Nat.lt_or_ge b w.heap.size with h' | h'
      · exact h'
      · rw [Array.getElem?_eq_none h'] at h; cases h
    obtain ⟨w', c', h1, h2, h3, h4⟩ := run_storeCells P (off := off) vs (i + 1) (w.setCell ⟨b, off + i, none⟩ v) (c.setIfInBounds (off + i) v) (hu.at_ hb)
      (fun o ho => hf o (by simpa using ho)) (by simp at hn ⊢; omega) (fun x hx => hv x (by simp [hx]))
    refine ⟨w', c', ?_, hu.trans h2, ?_, by simpa using h4⟩
    · have hc := cell?_at (off := off) h i
      rw [Array.getElem?_eq_getElem hi] at hc
      have hfz := frozen?_at h hf hi
      simp only [Go.storeCells, Sem.run_bind, run_store P w _ v .plain (hv v (by simp)), hc, hfz]
      rw [hadd]
      simpa using h1
    · rw [h3, ← splice_cons _ _ _ _ (by simpa using hi), ← Nat.add_assoc]
      simp

theorem single_iff (v : Value) : single v = v.oneCell' := by cases v <;> rfl
theorem VR.single {x y : Value} (h : VR ρ x y) (hs : AM.single x = true) : y.oneCell' = true := by
  cases hy : y with
  | agg cs => obtain ⟨xs, rfl⟩ := h.kind.2.2.2.2.2.1 cs hy; simp [AM.single] at hs
  | tuple cs =>
    subst hy
    cases x with
    | tuple xs => simp [AM.single] at hs
    | bool b => cases h
    | int k n => cases h
    | float _ _ => exact h.elim
    | complex _ _ _ => exact h.elim
    | string b => cases h
    | pointer a => cases a with
      | none => cases h
      | some a => obtain ⟨_, _, e⟩ := h; cases e
    | slice a l c => cases a with
      | none => obtain ⟨_, _, e⟩ := h; cases e
      | some a => obtain ⟨_, _, _, _, e⟩ := h; cases e
    | map a => cases a with
      | none => cases h
      | some a => obtain ⟨_, _, e⟩ := h; cases e
    | chan _ => exact h.elim
    | func f a b => obtain ⟨a⟩ := a; obtain ⟨b⟩ := b; obtain ⟨_, _, _, _, _, _, e⟩ := h; cases e
    | nilFunc => cases h
    | iface t x => obtain ⟨_, _, e⟩ := h; cases e
    | nilIface => cases h
    | agg cs => simp [AM.single] at hs
  | _ => rfl

theorem VRL.single {l l' : List Value} (h : VRL ρ l l') (hs : l.all AM.single = true) : ∀ v ∈ l', v.oneCell' = true := by
  induction l generalizing l' with
  | nil => cases h; simp
  | cons x xs ih =>
    obtain ⟨y, ys, h1, h2, rfl⟩ := h
    simp only [List.all_cons, Bool.and_eq_true] at hs
    intro v hv
    rcases List.mem_cons.1 hv with rfl | hv
    · exact h1.single hs.1
    · exact ih h2 hs.2 v hv

theorem VRP.splice {c l vs vs' : List Value} {k : Nat} (h : VRP ρ c l) (hv : VRL ρ vs vs') (hk : k + vs.length ≤ c.length) : VRP ρ (c.take k ++ (vs ++ c.drop (k + vs.length))) (AM.splice l k vs') := by
  obtain ⟨hd, tl, rfl, h2⟩ := h
  have hl := h2.length
  have hl2 := hv.length
  refine ⟨hd.take k ++ (vs' ++ hd.drop (k + vs.length)), tl, ?_, (h2.take k).append (hv.append (h2.drop _))⟩
  unfold AM.splice
  rw [List.take_append_of_le_length (by omega), List.drop_append_of_le_length (by omega), hl2]
  simp

/-- A store into memory of the state's own. -/
theorem run_storeAt (hr : HR T ρ N s w) {a : Addr} {vs vs' : List Value} {s' : AS} (h : storeAt s a vs = some s') (hv : VRL ρ vs vs') :
    ∃ b w', ρ a.block = some b ∧ (Go.storeCells ⟨b, a.off, a.spot⟩ vs').run P w = .ok () w' ∧ Post T N ρ s w ρ s' w' := by
  unfold storeAt at h
  simp only [cond_eq_ite] at h
  split at h
  · cases h
  rename_i hs
  have hsp : a.spot = none := by cases hq : a.spot <;> simp_all
  split at h
  · cases h
  rename_i hlim
  have hlim : s.lim ≤ a.block := by simpa [Nat.blt_eq] using hlim
  split at h
  · rename_i hall
    split at h
    · rename_i c e g hk
      split at h
      · rename_i hle
        have hle : a.off + vs.length ≤ c.length := Nat.le_of_ble_eq_true hle
        cases h
        obtain ⟨b, ob, h1, h2, ho, h5⟩ := hr.k.obj _ _ hk
        obtain ⟨c', fz, rfl, h3, h4⟩ := ho
        obtain ⟨hN, hf⟩ := h5 hlim
        have hsz : a.off + 0 + vs'.length ≤ c'.size := by
          obtain ⟨hd, tl, e1, e2⟩ := h3
          have := e2.length; have := hv.length
          have : c'.size = hd.length + tl.length := by rw [← Array.length_toList, e1]; simp
          omega
        obtain ⟨w', c2, k1, k2, k3, k4⟩ := run_storeCells P (off := a.off) vs' 0 w c' h2 hf hsz (hv.single hall)
        refine ⟨b, w', h1, by rw [hsp]; exact k1, hr.put hk hlim h1 k2 ⟨c2, fz, rfl, ?_, ?_⟩ (fun o ho => hf o (by omega))⟩
        · rw [k3]; exact h3.splice hv hle
        · intro cap hg
          obtain ⟨k, size, a1, a2, a3, a4, a5⟩ := h4 cap hg
          exact ⟨k, size, a1, a2, a3, a4, by omega⟩
      · cases h
    · cases h
  · cases h

theorem run_storeVar (hT : T.Ok P) (hr : HR T ρ N s w) {t : TypeId} {a : Addr} {v v' : Value} {s' : AS} (h : AM.storeVar T s t a v = some s') (hv : VR ρ v v') :
    ∃ b w', ρ a.block = some b ∧ (Go.storeVar t ⟨b, a.off, a.spot⟩ v').run P w = .ok () w' ∧ Post T N ρ s w ρ s' w' := by
  unfold AM.storeVar at h
  obtain ⟨n, hn, h⟩ := Option.bind_eq_some_iff.1 h
  rw [cond_eq_ite] at h
  split at h
  · rename_i hl
    have hl := Nat.eq_of_beq_eq_true hl
    obtain ⟨b, w', h1, h2, h3⟩ := run_storeAt (P := P) hr h hv.cells
    have hl2 : v'.cells.size = n := by have := hv.cells.length; simp at this; omega
    exact ⟨b, w', h1, by simp [Go.storeVar, run_sizeOf hT hn, hl2, h2], h3⟩
  · cases h
end

end Go.AM

namespace Go.AM

/-- A value that is made: it stands for v, the state being s' behind it. -/
def Gives (T : Tab) (P : Program) (N : Nat) (ρ : Env) (s : AS) (w : World) (m : Sem Value) (v : Value) (s' : AS) : Prop :=
  ∃ ρ' v' w', m.run P w = .ok v' w' ∧ VR ρ' v v' ∧ Post T N ρ s w ρ' s' w'

section
variable {T : Tab} {P : Program} {N : Nat} {ρ : Env} {s : AS} {w : World}

theorem Gives.of_pure (hr : HR T ρ N s w) {m : Sem Value} {v : Value} (h : ∃ v', m.run P w = .ok v' w ∧ VR ρ v v') : Gives T P N ρ s w m v s := by
  obtain ⟨v', h1, h2⟩ := h; exact ⟨ρ, v', w, h1, h2, Post.refl hr⟩

theorem unfrozen_zero (c : Array Value) (e : TypeId) : unfrozen (.cells c e (0, 0)) := fun off _ h => by simp only at h; omega
theorem OR.row {l : List Value} {c' : Array Value} (e : TypeId) (h : VRL ρ l c'.toList) : OR T ρ (.cells l e none) (.cells c' e (0, 0)) :=
  ⟨c', (0, 0), rfl, ⟨c'.toList, [], by simp, h⟩, fun cap hc => by cases hc⟩

/-- A new row of cells. -/
theorem HR.row (hr : HR T ρ N s w) {l : List Value} {c' : Array Value} (e : TypeId) (h : VRL ρ l c'.toList) :
    Post T N ρ s w (upd ρ s.next w.heap.size) (s.new (.cells l e none)) { w with heap := w.heap.push (.cells c' e (0, 0)) } :=
  hr.new (OR.row e h) (unfrozen_zero _ _) _ rfl ⟨rfl, rfl, rfl⟩

theorem gives_alloc (hT : T.Ok P) (hr : HR T ρ N s w) {e : TypeId} {z : Value} (hz : zeroOf T e = some z) :
    Gives T P N ρ s w (Instr.alloc e true (.tuple #[])) (.pointer (some ⟨s.next, 0, none⟩)) (s.new (.cells z.cells.toList e none)) := by
  obtain ⟨h1, h2⟩ := run_zero (w := w) hT hz
  exact ⟨_, .pointer (some ⟨w.heap.size, 0, none⟩), _, by simp [Instr.alloc, h1, newVar, newRow] <;> rfl, ⟨w.heap.size, upd_self, rfl⟩, hr.row e (VR.cells (VR.closed h2))⟩

theorem gives_box (hr : HR T ρ N s w) {e : TypeId} {x x' : Value} (hx : VR ρ x x') :
    Gives T P N ρ s w (Instr.box e x') (.pointer (some ⟨s.next, 0, none⟩)) (s.new (.cells x.cells.toList e none)) :=
  ⟨_, .pointer (some ⟨w.heap.size, 0, none⟩), _, by simp [Instr.box, newVar, newRow] <;> rfl, ⟨w.heap.size, upd_self, rfl⟩, hr.row e hx.cells⟩

theorem VRL.zeros {z : Value} (hz : AM.closed z = true) (n : Nat) : VRL ρ ((Array.range n).map fun i => z.cells[i % z.cells.size]!).toList ((Array.range n).map fun i => z.cells[i % z.cells.size]!).toList := by
  refine VRL.self _ fun x hx => ?_
  simp only [Array.toList_map, List.mem_map] at hx
  obtain ⟨i, _, rfl⟩ := hx
  have hc := VR.cells (VR.closed (ρ := ρ) hz)
  by_cases hi : i % z.cells.size < z.cells.size
  · rw [getElem!_pos z.cells _ hi]
    obtain ⟨y, h1, h2⟩ := hc.get? (i := i % z.cells.size) (x := z.cells[i % z.cells.size]) (by simp [hi])
    simp [hi] at h1
    rw [← h1] at h2; exact h2
  · rw [getElem!_neg z.cells _ hi]; exact rfl

theorem gives_buildSlice (hT : T.Ok P) (hr : HR T ρ N s w) {t : TypeId} {len : Nat} {parts parts' : List (Nat × Value)} {v : Value} {s' : AS} (h : abuildSlice T s t len parts = some (v, s')) (hp : PRL ρ parts parts') :
    Gives T P N ρ s w (Instr.buildSlice t len parts'.toArray) v s' := by
  unfold abuildSlice at h
  split at h
  · rename_i e hu
    obtain ⟨size, hs, h⟩ := Option.bind_eq_some_iff.1 h
    obtain ⟨z, hz, h⟩ := Option.bind_eq_some_iff.1 h
    split at h
    · cases h
    · rename_i hsz
      obtain ⟨out, ho, h⟩ := Option.map_eq_some_iff.1 h
      cases h
      obtain ⟨h1, h2⟩ := run_zero (w := w) hT hz
      obtain ⟨out', k1, k2⟩ := fill_rel parts parts' _ _ out hp (VRL.zeros (ρ := ρ) h2 (len * size)) ho
      refine ⟨_, .slice (some ⟨w.heap.size, 0, none⟩) len len, _, ?_, ⟨w.heap.size, len, upd_self, CR.exact ?_, rfl⟩, hr.row e k2⟩
      · have hsz' : ¬ (len * size > 2 ^ 24) := by have := hsz; simp only [not_or] at this; simpa using this.1
        simp only [Instr.buildSlice, Sem.run_bind, run_und hT hu, Result.andThen_ok, run_sizeOf hT hs, Sem.run_ite, if_neg hsz']
        by_cases h0 : len * size = 0
        · simp only [h0, if_true] at k1 ⊢
          have he : (Array.range 0).map (fun i => (#[] : Array Value)[i % (#[] : Array Value).size]!) = (Array.range 0).map (fun i => z.cells[i % z.cells.size]!) := by simp
          simp only [Sem.run_pure, Result.andThen_ok, Sem.run_bind]
          rw [he, k1]
          simp [newRow]
        · simp only [h0, if_false, Sem.run_bind, h1, Result.andThen_ok, Sem.run_pure]
          rw [k1]
          simp [newRow]
      · have : len ≤ 1048576 := by simp only [not_or] at hsz; omega
        exact Nat.lt_of_le_of_lt this (by decide)
  · cases h

theorem gives_makeMap (hT : T.Ok P) (hr : HR T ρ N s w) {t : TypeId} : Gives T P N ρ s w (Instr.makeMap t none) (.map (some s.next)) (s.new (.map [] 0)) :=
  ⟨_, .map (some w.heap.size), { w with heap := w.heap.push (.map #[] 0) }, by simp [Instr.makeMap], ⟨w.heap.size, upd_self, rfl⟩, hr.new (show OR T ρ (.map [] 0) (.map #[] 0) from ⟨[], rfl, rfl⟩) trivial _ rfl ⟨rfl, rfl, rfl⟩⟩
theorem gives_makeMap1 (hT : T.Ok P) (hr : HR T ρ N s w) {t k e : TypeId} {j : IntKind} {n : Int} (hu : T.und t = some (.map k e)) : Gives T P N ρ s w (Instr.makeMap t (some (.int j n))) (.map (some s.next)) (s.new (.map [] 0)) :=
  ⟨_, .map (some w.heap.size), { w with heap := w.heap.push (.map #[] 0) }, by simp [Instr.makeMap, run_und hT hu, asInt, asIntOf], ⟨w.heap.size, upd_self, rfl⟩, hr.new (show OR T ρ (.map [] 0) (.map #[] 0) from ⟨[], rfl, rfl⟩) trivial _ rfl ⟨rfl, rfl, rfl⟩⟩

theorem gives_makeSlice (hT : T.Ok P) (hr : HR T ρ N s w) {t : TypeId} {l c l' c' v : Value} {s' : AS} (h : amakeSlice T s t l c = some (v, s')) (hl : VR ρ l l') (hc : VR ρ c c') : Gives T P N ρ s w (Instr.makeSlice t l' c') v s' := by
  unfold amakeSlice at h
  split at h
  · rename_i e k1 l k2 c hu
    cases hl; cases hc
    obtain ⟨size, hs, h⟩ := Option.bind_eq_some_iff.1 h
    obtain ⟨z, hz, h⟩ := Option.bind_eq_some_iff.1 h
    obtain ⟨i, hi, h⟩ := Option.bind_eq_some_iff.1 h
    split at h
    · rename_i hb
      cases h
      obtain ⟨b1, b2, b3, b4⟩ := hb
      obtain ⟨h1, h2⟩ := run_zero (w := w) hT hz
      have wl : IntKind.i64.wrap l = l := by rw [IntKind.wrap_i64]; omega
      have wc : IntKind.i64.wrap c = c := by rw [IntKind.wrap_i64]; omega
      have hbc : (i.bytes : Int) * c ≤ 4294967296 := by
        have : (i.bytes : Int) * c ≤ 65536 * 65536 := Int.mul_le_mul (by omega) b3 (by omega) (by omega)
        omega
      have hbl : (i.bytes : Int) * l ≤ 4294967296 := by
        have : (i.bytes : Int) * l ≤ 65536 * 65536 := Int.mul_le_mul (by omega) (by omega) b1 (by omega)
        omega
      refine ⟨_, .slice (some ⟨w.heap.size, 0, none⟩) l.toNat c.toNat, _, ?_, ⟨w.heap.size, c.toNat, upd_self, CR.exact ?_, rfl⟩, hr.row e (VRL.zeros h2 (c.toNat * size))⟩
      · have t1 : ¬ (c < 0 ∨ (281474976710656 : Int) < i.bytes * c) := by omega
        have t2 : ¬ (l < 0) := by omega
        have t3 : ¬ (c < l) := by omega
        by_cases h0 : c.toNat * size = 0
        · simp [Instr.makeSlice, run_und hT hu, asInt, asIntOf, run_info hT hi, wl, wc, t1, t2, t3, run_sizeOf hT hs, newRow, h0, show Array.range 0 = #[] from rfl]
        · have h0' : ¬ (c ≤ 0 ∨ size = 0) := fun h => h0 (by rcases h with h | h; rw [show c.toNat = 0 by omega, Nat.zero_mul]; rw [h, Nat.mul_zero])
          simp [h0', Instr.makeSlice, run_und hT hu, asInt, asIntOf, run_info hT hi, wl, wc, t1, t2, t3, run_sizeOf hT hs, h0, newRow, h1]
      · have : c.toNat ≤ 65536 := by omega
        exact Nat.lt_of_le_of_lt this (by decide)
    · cases h
  · cases h
end

end Go.AM

namespace Go.AM

section
variable {T : Tab} {P : Program} {N : Nat} {ρ : Env} {s : AS} {w : World}

theorem part_ground {t off : Nat} {cs : List Value} {u : Value} (hg : ground (.agg ⟨cs⟩) = true) (h : AM.part T t cs off = some u) : ground u = true := by
  have hg' : cs.all (fun | .bool _ | .int _ _ | .string _ => true | _ => false) = true := hg
  unfold AM.part at h
  split at h
  · obtain ⟨n, _, rfl⟩ := Option.map_eq_some_iff.1 h
    show (((cs.drop off).take n).toArray.toList.all _) = true
    simp only [List.toList_toArray, List.all_eq_true] at hg' ⊢
    intro x hx
    exact hg' x (List.mem_of_mem_drop (List.mem_of_mem_take hx))
  · have := List.mem_of_getElem? h
    simp only [List.all_eq_true] at hg'
    have := hg' u this
    cases u <;> first | rfl | (simp at this)
  · cases h

theorem run_checkKey (hT : T.Ok P) (empty : Bool) : ∀ (d : Nat) (t : TypeId) (v : Value), AM.checkKey T d t v = true → ground v = true → ∀ D, d ≤ D → (Instr.checkKey empty D t v).run P w = .ok () w := by
  intro d
  induction d with
  | zero => intro t v h; simp [AM.checkKey] at h
  | succ d ih =>
    intro t v h hg D hD
    obtain ⟨D, rfl⟩ : ∃ D', D = D' + 1 := ⟨D - 1, by omega⟩
    unfold AM.checkKey at h
    split at h
    · rename_i fs cs hu
      obtain ⟨cs⟩ := cs
      simp only [Instr.checkKey, Sem.run_bind, run_und hT hu, Result.andThen_ok]
      rw [← Array.forIn_toList]
      generalize fs.toList = l at h
      clear hu
      induction l with
      | nil => simp
      | cons f l ihl =>
        simp only [List.all_cons, Bool.and_eq_true] at h
        obtain ⟨h1, h2⟩ := h
        simp only [List.forIn_cons, Sem.run_bind, Sem.run_ite]
        by_cases hn : f.name = "_"
        · simp only [hn, ne_eq, not_true_eq_false, if_false, Sem.run_pure, Result.andThen_ok]
          exact ihl h2
        · simp only [hn, if_false] at h1
          simp only [ne_eq, hn, not_false_eq_true, if_true]
          split at h1
          · rename_i u hu
            obtain ⟨u', k1, k2⟩ := run_part (w := w) hT hu (VRL.self (ρ := fun _ => none) cs (fun x hx => by
              have hg' : cs.all (fun | .bool _ | .int _ _ | .string _ => true | _ => false) = true := hg
              simp only [List.all_eq_true] at hg'
              have := hg' x hx
              cases x <;> first | rfl | (simp at this)))
            obtain rfl := k2.ground (part_ground hg hu)
            simp only [k1, Result.andThen_ok, ih f.type u' h1 (part_ground hg hu) D (by omega), Sem.run_pure]
            exact ihl h2
          · cases h1
    · rename_i hu; simp [Instr.checkKey, run_und hT hu]
    · rename_i hu; simp [Instr.checkKey, run_und hT hu]
    · rename_i hu; simp [Instr.checkKey, run_und hT hu]
    · cases h

theorem beq_bytes (a b : ByteArray) : (a == b) = decide (a = b) := by
  rw [beq_toListBytes, Bool.eq_iff_iff]
  simp only [beq_iff_eq, decide_eq_true_eq]
  rw [ByteArray.toList_eq, ByteArray.toList_eq]
  constructor
  · intro h; obtain ⟨⟨x⟩⟩ := a; obtain ⟨⟨y⟩⟩ := b; simp at h; rw [h]
  · rintro rfl; rfl

theorem flatFields_eq (hT : T.Ok P) {D : Nat} : ∀ (fs : List Field) (ks : List FK) (i : Nat) (xs ys : List Value) (pre pre' : List Value) (b : Bool), flatFields T fs i = some ks → pre.length = i → pre'.length = i → cellsEq ks xs ys = some b →
    (Op.eqFields (D + 1) ⟨pre ++ xs⟩ ⟨pre' ++ ys⟩ fs).run P w = .ok b w
  | [], ks, i, xs, ys, pre, pre', b, h, h1, h1', hc => by
    simp only [flatFields, Option.some.injEq] at h; subst h
    cases xs <;> cases ys <;> simp [cellsEq] at hc
    subst hc; simp [Op.eqFields]
  | f :: fs, ks, i, xs, ys, pre, pre', b, h, h1, h1', hc => by
    simp only [flatFields] at h
    cases hcnd : (f.name != "_") && Nat.beq f.offset i with
    | false => rw [hcnd] at h; cases h
    | true =>
      rw [hcnd] at h
      simp only [Bool.and_eq_true, bne_iff_ne, ne_eq] at hcnd
      obtain ⟨hn, ho⟩ := hcnd
      have ho := Nat.eq_of_beq_eq_true ho
      obtain ⟨k, hk, h⟩ := Option.bind_eq_some_iff.1 h
      obtain ⟨ks', hks, rfl⟩ := Option.map_eq_some_iff.1 h
      have hagg : AM.isAgg T f.type = some false := by
        unfold fkOf at hk; unfold AM.isAgg
        split at hk <;> first | (rename_i e; simp [e]; done) | cases hk
      have main : ∀ x xs y ys, (∀ r, (r = true → cellsEq ks' xs ys = some b) → (r = false → b = false) → (Op.equalIn (D + 1) f.type x y).run P w = .ok r w →
          (Op.eqFields (D + 1) ⟨pre ++ x :: xs⟩ ⟨pre' ++ y :: ys⟩ (f :: fs)).run P w = .ok b w) := by
        intro x xs y ys r ht hf hr
        have px : (Go.part f.type ⟨pre ++ x :: xs⟩ f.offset).run P w = .ok x w := by simp [Go.part, run_isAgg hT hagg, ho, ← h1]
        have py : (Go.part f.type ⟨pre' ++ y :: ys⟩ f.offset).run P w = .ok y w := by simp [Go.part, run_isAgg hT hagg, ho, ← h1']
        simp only [Op.eqFields, ne_eq, hn, not_false_eq_true, if_true, Sem.run_bind, px, py, Result.andThen_ok, hr]
        cases r
        · simp [hf rfl]
        · have := flatFields_eq hT (D := D) fs ks' (i + 1) xs ys (pre ++ [x]) (pre' ++ [y]) b hks (by simp [h1]) (by simp [h1']) (ht rfl)
          simpa using this
      unfold fkOf at hk
      split at hk
      · rename_i hu
        cases hk
        cases xs with
        | nil => simp [cellsEq] at hc
        | cons x xs => cases ys with
          | nil => cases x <;> simp [cellsEq] at hc
          | cons y ys =>
            cases x <;> cases y <;> simp only [cellsEq] at hc <;> first | cases hc | skip
            rename_i a c
            refine main _ _ _ _ (a == c) (fun hab => ?_) (fun hab => ?_) (by simp [Op.equalIn, run_und hT hu])
            · rw [if_pos (by simpa using hab)] at hc; exact hc
            · rw [if_neg (by simpa using hab)] at hc; cases hc; rfl
      · rename_i hu
        cases hk
        cases xs with
        | nil => simp [cellsEq] at hc
        | cons x xs => cases ys with
          | nil => cases x <;> simp [cellsEq] at hc
          | cons y ys =>
            cases x <;> cases y <;> simp only [cellsEq] at hc <;> first | cases hc | skip
            rename_i k1 a k2 c
            split at hc
            · rename_i hkk
              subst hkk
              refine main _ _ _ _ (a == c) (fun hab => ?_) (fun hab => ?_) (by simp [Op.equalIn, run_und hT hu])
              · rw [if_pos (by simpa using hab)] at hc; exact hc
              · rw [if_neg (by simpa using hab)] at hc; cases hc; rfl
            · cases hc
      · rename_i hu
        cases hk
        cases xs with
        | nil => simp [cellsEq] at hc
        | cons x xs => cases ys with
          | nil => cases x <;> simp [cellsEq] at hc
          | cons y ys =>
            cases x <;> cases y <;> simp only [cellsEq] at hc <;> first | cases hc | skip
            rename_i a c
            refine main _ _ _ _ (decide (a = c)) (fun hab => ?_) (fun hab => ?_) (by simp [Op.equalIn, run_und hT hu, beq_bytes])
            · rw [if_pos (by simpa using hab)] at hc; exact hc
            · rw [if_neg (by simpa using hab)] at hc; cases hc; rfl
      · cases hk

theorem run_keyEq (hT : T.Ok P) (hr : HR T ρ N s w) {t : TypeId} {x y : Value} {b : Bool} (h : keyEq T s t x y = some b) (gx : ground x = true) (gy : ground y = true) : (Op.equal t x y).run P w = .ok b w := by
  have self : ∀ v, ground v = true → VR ρ v v := fun v hv => by
    cases v with
    | bool _ => rfl
    | int _ _ => rfl
    | string _ => rfl
    | agg cs =>
      obtain ⟨cs⟩ := cs
      refine ⟨cs, VRL.self cs fun x hx => ?_, rfl⟩
      have hg' : cs.all (fun | .bool _ | .int _ _ | .string _ => true | _ => false) = true := hv
      simp only [List.all_eq_true] at hg'
      have := hg' x hx
      cases x <;> first | rfl | (simp at this)
    | _ => simp [ground] at hv
  unfold keyEq at h
  split at h
  · rename_i ks hfl
    split at h
    · rename_i xs ys
      unfold flat at hfl
      split at hfl
      · rename_i fs hu
        cases hpl : T.plain t with
        | false => rw [hpl] at hfl; cases hfl
        | true =>
          rw [hpl] at hfl
          have hut := hT.und t _ hu
          have hfo : P.fieldsOf t = fs := by unfold Program.fieldsOf; rw [hut]
          have := flatFields_eq (w := w) hT (D := 9998) fs.toList ks 0 xs ys [] [] b hfl rfl rfl h
          rw [Op.equal, Op.maxDepth, show (10000 : Nat) = 9999 + 1 from rfl, run_equalIn_struct w 9999 t _ _ (by rw [hfo]; exact hut) (hT.plain t hpl).1, hfo]
          simpa using this
      · cases hfl
    · cases h
  · exact run_aeq hT hr 60 t x y b h x y (self x gx) (self y gy) 10000 (by decide)

/-- What a search finds, and what stands for it. -/
def FRel (ρ : Env) : Option (Nat × Value) → Option (Nat × Value) → Prop
  | none, r => r = none
  | some (i, v), r => ∃ v', VR ρ v v' ∧ r = some (i, v')

theorem findNow_rel {d : TypeDesc} {k : Value} : ∀ (es es' : List MapEntry) (i : Nat), ERL ρ es es' →
    (∀ r, Instr.findNow d k es i = some r → ∃ r', Instr.findNow d k es' i = some r' ∧ FRel ρ r r') ∧ (Instr.findNow d k es i = none → Instr.findNow d k es' i = none)
  | [], _, i, h => by cases h; exact ⟨fun r hr => by simp [Instr.findNow] at hr; subst hr; exact ⟨none, rfl, rfl⟩, fun h => h⟩
  | e :: es, _, i, ⟨e', es', he, hes, h3⟩ => by
    subst h3
    simp only [Instr.findNow]
    rw [he.1]
    cases hs : Instr.sameNow d k e.key with
    | none => exact ⟨fun r hr => by simp at hr, fun _ => rfl⟩
    | some b =>
      cases b with
      | true => exact ⟨fun r hr => by simp at hr; subst hr; exact ⟨some (i, e'.val), rfl, e'.val, he.2.2.1, rfl⟩, fun h => by simp at h⟩
      | false => exact findNow_rel es es' (i + 1) hes

theorem findAsk_rel (hT : T.Ok P) (hr : HR T ρ N s w) {t : TypeId} {k : Value} (gk : ground k = true) : ∀ (es es' : List MapEntry) (i : Nat) (r : Option (Nat × Value)), ERL ρ es es' → findAsk T s t k es i = some r →
    ∃ r', (Instr.findAsking t k es' i).run P w = .ok r' w ∧ FRel ρ r r'
  | [], _, i, r, h, hf => by cases h; simp [findAsk] at hf; subst hf; exact ⟨none, rfl, rfl⟩
  | e :: es, _, i, r, ⟨e', es', he, hes, h3⟩, hf => by
    subst h3
    simp only [findAsk] at hf
    cases hk : keyEq T s t k e.key with
    | none => simp [hk] at hf
    | some b =>
      have hb := run_keyEq hT hr hk gk he.2.1
      rw [← he.1] at hb
      cases b with
      | true => simp [hk] at hf; subst hf; exact ⟨some (i, e'.val), by simp [Instr.findAsking, hb], e'.val, he.2.2.1, rfl⟩
      | false =>
        simp [hk] at hf
        obtain ⟨r', k1, k2⟩ := findAsk_rel hT hr gk es es' (i + 1) r hes hf
        exact ⟨r', by simp [Instr.findAsking, hb, k1], k2⟩

theorem run_findKey (hT : T.Ok P) (hr : HR T ρ N s w) {t : TypeId} {k : Value} (gk : ground k = true) {es es' : List MapEntry} (h : ERL ρ es es') {r : Option (Nat × Value)} (hf : AM.findKey T s t k es = some r) :
    ∃ r', (Instr.findKey t k es').run P w = .ok r' w ∧ FRel ρ r r' := by
  unfold AM.findKey at hf
  split at hf
  · rename_i d hu
    obtain ⟨f1, f2⟩ := findNow_rel (ρ := ρ) (d := d) (k := k) es es' 0 h
    split at hf
    · rename_i r0 h0
      cases hf
      obtain ⟨r', k1, k2⟩ := f1 _ h0
      exact ⟨r', by simp [Instr.findKey, run_und hT hu, k1], k2⟩
    · rename_i h0
      obtain ⟨r', k1, k2⟩ := findAsk_rel hT hr gk es es' 0 r h hf
      exact ⟨r', by simp [Instr.findKey, run_und hT hu, f2 h0, k1], k2⟩
  · cases hf

theorem ERL.length {es es' : List MapEntry} (h : ERL ρ es es') : es'.length = es.length := by
  induction es generalizing es' with
  | nil => cases h; rfl
  | cons e es ih => obtain ⟨_, _, _, h2, rfl⟩ := h; simp [ih h2]

/-- A map that the state knows. -/
theorem map_real (hr : HR T ρ N s w) {r : Nat} {es : List MapEntry} {clock : Nat} (h : s.heap.get r = some (.map es clock)) :
    ∃ b es', ρ r = some b ∧ w.heap[b]? = some (.map ⟨es'⟩ clock) ∧ ERL ρ es es' := by
  obtain ⟨b, ob, h1, h2, ⟨es', rfl, h3⟩, _⟩ := hr.k.obj _ _ h
  exact ⟨b, es', h1, h2, h3⟩
theorem run_getMap {b : Nat} {es : Array MapEntry} {clock : Nat} (h : w.heap[b]? = some (.map es clock)) : (getObj b).run P w = .ok (.map es clock) w := by
  simp [getObj, Sem.run, h]

theorem run_alookup (hT : T.Ok P) (hr : HR T ρ N s w) {t : TypeId} {x x' ix ix' v : Value} {ok : Bool} (h : alookup T s t x ix ok = some v) (hx : VR ρ x x') (hi : VR ρ ix ix') : ∃ v', (Instr.lookup t x' ix' ok).run P w = .ok v' w ∧ VR ρ v v' := by
  unfold alookup at h
  split at h
  · rename_i kt et hu
    split at h
    · rename_i hck
      obtain ⟨hck, hg⟩ := hck
      obtain rfl := hi.ground hg
      simp only at h
      obtain ⟨es, hes, h⟩ := Option.bind_eq_some_iff.1 h
      have hmap : ∃ es', ERL ρ es es' ∧ ((x' = .map none ∧ es' = []) ∨ ∃ b clock, x' = .map (some b) ∧ (getObj b).run P w = .ok (.map ⟨es'⟩ clock) w) := by
        split at hes
        · cases hes; cases hx; exact ⟨[], rfl, .inl ⟨rfl, rfl⟩⟩
        · rename_i r
          obtain ⟨b, hb, rfl⟩ := hx
          split at hes
          · rename_i es0 clock hk
            cases hes
            obtain ⟨b', es', k1, k2, k3⟩ := map_real hr hk
            rw [hb] at k1; cases k1
            exact ⟨es', k3, .inr ⟨_, _, rfl, run_getMap k2⟩⟩
          · cases hes
        · cases hes
      obtain ⟨es', he, hm⟩ := hmap
      obtain ⟨r, hf, h⟩ := Option.bind_eq_some_iff.1 h
      obtain ⟨r', k1, k2⟩ := run_findKey (P := P) hT hr hg he hf
      have hc := run_checkKey (P := P) (w := w) hT (⟨es'⟩ : Array MapEntry).isEmpty 60 kt ix' hck hg 10000 (by decide)
      cases r with
      | some iv =>
        obtain ⟨i, v0⟩ := iv
        obtain ⟨v', k3, rfl⟩ := k2
        cases h
        refine ⟨if ok then .tuple #[v', .bool true] else v', ?_, ?_⟩
        · rcases hm with ⟨rfl, rfl⟩ | ⟨b, clock, rfl, hm⟩
          · simp only [Instr.lookup, Sem.run_bind, run_und hT hu, Result.andThen_ok, hc, k1, Sem.run_pure]
          · simp only [Instr.lookup, Sem.run_bind, run_und hT hu, Result.andThen_ok, hm, hc, k1, Sem.run_pure]
        · cases ok
          · exact k3
          · exact ⟨_, ⟨v', _, k3, ⟨_, _, rfl, rfl, rfl⟩, rfl⟩, rfl⟩
      | none =>
        cases k2
        obtain ⟨z, hz, rfl⟩ := Option.map_eq_some_iff.1 h
        obtain ⟨z1, z2⟩ := run_zero (w := w) hT hz
        refine ⟨if ok then .tuple #[z, .bool false] else z, ?_, ?_⟩
        · rcases hm with ⟨rfl, rfl⟩ | ⟨b, clock, rfl, hm⟩
          · simp only [Instr.lookup, Sem.run_bind, run_und hT hu, Result.andThen_ok, hc, k1, Sem.run_pure, z1]
          · simp only [Instr.lookup, Sem.run_bind, run_und hT hu, Result.andThen_ok, hm, hc, k1, Sem.run_pure, z1]
        · cases ok
          · exact VR.closed z2
          · exact ⟨_, ⟨z, _, VR.closed z2, ⟨_, _, rfl, rfl, rfl⟩, rfl⟩, rfl⟩
    · cases h
  · cases h
end

end Go.AM

namespace Go.AM

section
variable {T : Tab} {P : Program} {N : Nat} {ρ : Env} {s : AS} {w : World}

theorem run_setObj {b : Nat} {o o' : Obj} (h : w.heap[b]? = some o) (ho : ∀ c e f, o ≠ .cells c e f) : (setObj b o').run P w = .ok () { w with heap := w.heap.setIfInBounds b o' } := by
  cases o with
  | cells c e f => exact absurd rfl (ho c e f)
  | _ => simp [setObj, Sem.run, h]
theorem Upd.setObj (b : Nat) (o' : Obj) : Upd w { w with heap := w.heap.setIfInBounds b o' } b o' :=
  ⟨by simp, fun hb => by simp [Array.getElem?_setIfInBounds, hb], fun i hi => by simp [Array.getElem?_setIfInBounds, Ne.symm hi], ⟨rfl, rfl, rfl⟩⟩

theorem ERL.set {es es' : List MapEntry} (h : ERL ρ es es') : ∀ (i : Nat) {e e' : MapEntry}, ER ρ e e' → ERL ρ (es.set i e) (es'.set i e') := by
  induction es generalizing es' with
  | nil => cases h; intro i e e' _; exact rfl
  | cons e0 es ih =>
    obtain ⟨e1, es1, h1, h2, rfl⟩ := h
    intro i e e' he
    cases i with
    | zero => exact ⟨_, _, he, h2, rfl⟩
    | succ i => exact ⟨_, _, h1, ih h2 i he, rfl⟩
theorem ERL.snoc {es es' : List MapEntry} (h : ERL ρ es es') {e e' : MapEntry} (he : ER ρ e e') : ERL ρ (es ++ [e]) (es' ++ [e']) := by
  induction es generalizing es' with
  | nil => cases h; exact ⟨_, _, he, rfl, rfl⟩
  | cons e0 es ih => obtain ⟨e1, es1, h1, h2, rfl⟩ := h; exact ⟨_, _, h1, ih h2, rfl⟩
theorem ERL.get? {es es' : List MapEntry} (h : ERL ρ es es') {i : Nat} {e : MapEntry} (he : es[i]? = some e) : ∃ e', es'[i]? = some e' ∧ ER ρ e e' := by
  induction es generalizing es' i with
  | nil => simp at he
  | cons e0 es ih =>
    obtain ⟨e1, es1, h1, h2, rfl⟩ := h
    cases i with
    | zero => simp at he; subst he; exact ⟨e1, by simp, h1⟩
    | succ i => simpa using ih h2 (by simpa using he)

theorem list_modify {α : Type} (l : List α) (i : Nat) (f : α → α) {x : α} (h : l[i]? = some x) : l.modify i f = l.set i (f x) := by
  induction l generalizing i with
  | nil => simp at h
  | cons a l ih =>
    cases i with
    | zero => simp at h; subst h; simp
    | succ i => simp at h; simp [ih i h]

theorem run_amapUpdate (hT : T.Ok P) (hr : HR T ρ N s w) {t : TypeId} {m k v m' k' v' : Value} {s' : AS} (h : amapUpdate T s t m k v = some s') (hm : VR ρ m m') (hk : VR ρ k k') (hv : VR ρ v v') :
    ∃ w', (Instr.mapUpdate t m' k' v').run P w = .ok () w' ∧ Post T N ρ s w ρ s' w' := by
  unfold amapUpdate at h
  split at h
  · rename_i kt et r hu
    obtain ⟨b, hb, rfl⟩ := hm
    split at h
    · cases h
    rename_i hlim
    split at h
    · rename_i hck
      obtain ⟨hck, hg⟩ := hck
      obtain rfl := hk.ground hg
      split at h
      · rename_i es clock hes
        obtain ⟨b', es', k1, k2, k3⟩ := map_real hr hes
        rw [hb] at k1; cases k1
        obtain ⟨f, hf, h⟩ := Option.bind_eq_some_iff.1 h
        obtain ⟨r', g1, g2⟩ := run_findKey (P := P) hT hr hg k3 hf
        have hc := run_checkKey (P := P) (w := w) hT false 60 kt k' hck hg 10000 (by decide)
        have hgm := run_getMap (P := P) k2
        cases f with
        | some iv =>
          obtain ⟨i, v0⟩ := iv
          obtain ⟨v1, g3, rfl⟩ := g2
          simp only at h
          split at h
          · rename_i e he
            split at h
            · rename_i hsb
              cases h
              obtain ⟨e', e1, e2⟩ := k3.get? he
              have hkey : (Instr.keyThatStays ((((⟨es'⟩ : Array MapEntry)[i]?).map (·.key)).getD k') k').run P w = .ok k' w := by
                have : ((⟨es'⟩ : Array MapEntry)[i]?) = some e' := by simpa using e1
                rw [this]
                simp [Instr.keyThatStays, e2.1, hsb]
              refine ⟨{ w with heap := w.heap.setIfInBounds b (.map ((⟨es'⟩ : Array MapEntry).modify i fun e => { e with key := k', val := v' }) clock) }, ?_, ?_⟩
              · have hs := fun o' => run_setObj (P := P) (o' := o') k2 (fun _ _ _ h => by cases h)
                simp only [Instr.mapUpdate, Sem.run_bind, run_und hT hu, Result.andThen_ok, hgm, hc, g1, hkey, hs]
              · refine hr.put hes (by omega) hb (Upd.setObj b _) ?_ trivial
                refine ⟨es'.modify i fun e => { e with key := k', val := v' }, ?_, ?_⟩
                · congr 1
                  apply Array.ext'
                  simp
                · rw [list_modify es' i _ e1]
                  refine k3.set i ⟨rfl, hg, hv, e2.2.2.2⟩
            · cases h
          · cases h
        | none =>
          cases g2
          cases h
          refine ⟨{ w with heap := w.heap.setIfInBounds b (.map ((⟨es'⟩ : Array MapEntry).push { key := k', val := v', born := clock }) (clock + 1)) }, ?_, ?_⟩
          · have hs := fun o' => run_setObj (P := P) (o' := o') k2 (fun _ _ _ h => by cases h)
            simp only [Instr.mapUpdate, Sem.run_bind, run_und hT hu, Result.andThen_ok, hgm, hc, g1, hs]
          · refine hr.put hes (by omega) hb (Upd.setObj b _) ?_ trivial
            exact ⟨es' ++ [{ key := k', val := v', born := clock }], by simp, k3.snoc ⟨rfl, hg, hv, rfl⟩⟩
      · cases h
    · cases h
  · cases h

theorem gives_range (hT : T.Ok P) (hr : HR T ρ N s w) {t : TypeId} {b : ByteArray} (hu : T.und t = some .string) : Gives T P N ρ s w (Instr.range t (.string b)) (.pointer (some ⟨s.next, 0, none⟩)) (s.new (.iter b 0)) :=
  ⟨_, .pointer (some ⟨w.heap.size, 0, none⟩), { w with heap := w.heap.push (.stringIter b 0) }, by simp [Instr.range, run_und hT hu], ⟨w.heap.size, upd_self, rfl⟩, hr.new (show OR T ρ (.iter b 0) (.stringIter b 0) from rfl) trivial _ rfl ⟨rfl, rfl, rfl⟩⟩

theorem gives_next (hr : HR T ρ N s w) {it it' v : Value} {s' : AS} (h : anext s it = some (v, s')) (hi : VR ρ it it') (t : TypeId) : Gives T P N ρ s w (Instr.next it' true t) v s' := by
  unfold anext at h
  split at h
  · rename_i r
    obtain ⟨b, hb, rfl⟩ := hi
    split at h
    · cases h
    rename_i hlim
    split at h
    · rename_i str pos hk
      obtain ⟨b', ob, k1, k2, k3, _⟩ := hr.k.obj _ _ hk
      rw [hb] at k1; cases k1
      have k3 : ob = .stringIter str pos := k3
      subst k3
      have hgo : (getObj b).run P w = .ok (.stringIter str pos) w := by simp [getObj, Sem.run, k2]
      split at h
      · rename_i hp
        simp only [Option.some.injEq, Prod.mk.injEq] at h
        obtain ⟨rfl, rfl⟩ := h
        refine ⟨ρ, .tuple #[.bool true, goInt pos, .int .i32 (Utf8.decode str pos).1], { w with heap := w.heap.setIfInBounds b (.stringIter str (pos + (Utf8.decode str pos).2)) }, ?_, ?_, hr.put hk (by omega) hb (Upd.setObj b _) rfl trivial⟩
        · have hs := fun o' => run_setObj (P := P) (o' := o') k2 (fun _ _ _ h => by cases h)
          simp only [Instr.next, Sem.run_bind, hgo, Result.andThen_ok, hp, if_true, hs, Sem.run_pure]
        · exact ⟨_, ⟨_, _, rfl, ⟨_, _, rfl, ⟨_, _, rfl, rfl, rfl⟩, rfl⟩, rfl⟩, rfl⟩
      · rename_i hp
        cases h
        exact ⟨ρ, .tuple #[.bool false], w, by simp [Instr.next, hgo, hp], ⟨_, ⟨_, _, rfl, rfl, rfl⟩, rfl⟩, Post.refl hr⟩
    · cases h
  · cases h

theorem run_alen (hT : T.Ok P) (hr : HR T ρ N s w) {ts : List TypeId} {x x' v : Value} {ty : TypeId} (h : alen T s ts x = some v) (hx : VR ρ x x') : ∃ v', (Builtin.len_ ts.toArray ty #[x']).run P w = .ok v' w ∧ VR ρ v v' := by
  unfold alen at h
  split at h
  · rename_i t ts
    have h0 : (t :: ts).toArray[0]? = some t := by simp
    split at h
    · rename_i b hu
      cases hx; cases h
      exact ⟨_, by simp [Builtin.len_, run_und hT hu] <;> rfl, rfl⟩
    · rename_i n _ hu
      cases h
      exact ⟨_, by simp [Builtin.len_, run_und hT hu] <;> rfl, rfl⟩
    · rename_i a n c hu
      cases h
      obtain ⟨a', c', rfl, _⟩ := hx.slice_move
      exact ⟨_, by simp [Builtin.len_, run_und hT hu] <;> rfl, rfl⟩
    · rename_i hu
      cases hx; cases h
      exact ⟨_, by simp [Builtin.len_, run_und hT hu] <;> rfl, rfl⟩
    · rename_i r hu
      obtain ⟨b, hb, rfl⟩ := hx
      split at h
      · rename_i es clock hk
        cases h
        obtain ⟨b', es', k1, k2, k3⟩ := map_real hr hk
        rw [hb] at k1; cases k1
        refine ⟨goInt es'.length, ?_, by rw [k3.length]; exact rfl⟩
        simp [Builtin.len_, run_und hT hu, run_getMap (P := P) k2]
      · cases h
    · cases h
  · cases h
end

end Go.AM

namespace Go.AM

section
variable {T : Tab} {P : Program} {N : Nat} {ρ : Env} {s : AS} {w : World}

theorem HR.grown (hr : HR T ρ N s w) {l : List Value} {c' : Array Value} {e : TypeId} {lb k size len : Nat} (hl : VRP ρ l c'.toList) (hs : AM.sizeOf T e = some size) (hk : c'.size = k * size) (h1 : lb ≤ k) (h2 : lb < capBase) (w' : World) (hw : w'.heap = w.heap.push (.cells c' e (0, 0))) (env : Same w w') :
    ∃ ρ', VR ρ' (s.grownSlice len lb) (.slice (some ⟨w.heap.size, 0, none⟩) len k) ∧ Post T N ρ s w ρ' (s.grown l e lb) w' := by
  have p1 := hr.name k
  obtain ⟨c1, c2, c3, c4⟩ := capId_mk (id := s.next) (off := 0) (lb := lb) (by decide) h2
  have hid : upd ρ s.next k s.next = some k := upd_self
  have p2 := p1.hr.new (o := .cells l e (some (mkCap s.next 0 lb))) (ob := .cells c' e (0, 0)) ⟨c', (0, 0), rfl, hl.mono p1.sub, fun cap hc => by
    cases hc
    exact ⟨k, size, by rw [c1]; exact hid, by omega, c2, hs, hk⟩⟩ (unfrozen_zero _ _) w' hw env
  refine ⟨_, ⟨w.heap.size, k, upd_self, ?_, rfl⟩, p1.trans p2⟩
  unfold CR
  rw [if_neg c4, c1, c2, c3]
  exact ⟨k, p2.sub _ _ hid, by omega, h1⟩

theorem run_firstCells (hr : HR T ρ N s w) {size n : Nat} {x x' : Value} {l : List Value} (h : AM.firstCells s size n x = some l) (hx : VR ρ x x') :
    ∃ l', (Builtin.firstCells size n x').run P w = .ok l'.toArray w ∧ VRL ρ l l' := by
  unfold AM.firstCells at h
  split at h
  · rename_i a m c
    obtain ⟨b, c', hb, hc, rfl⟩ := hx
    obtain ⟨b', cs, e, fz, h1, h2, h3, h4, h5, h6⟩ := cellsAt_real hr h
    rw [hb] at h1; cases h1
    exact ⟨_, by simp only [Builtin.firstCells, h2]; exact run_loadCells h3 h4, h6⟩
  · obtain ⟨c', hc, rfl⟩ := hx
    cases h
    exact ⟨[], by simp [Builtin.firstCells], rfl⟩
  · rename_i b
    cases hx; cases h
    refine ⟨_, ?_, VRL.self _ fun x hx => ?_⟩
    · simp only [Builtin.firstCells, Sem.run_pure]
      congr 1
      apply Array.ext'
      obtain ⟨⟨lb⟩⟩ := b
      simp [ByteArray.data_extract, List.map_take]
    · obtain ⟨c, _, rfl⟩ := List.mem_map.1 hx; rfl
  · cases h

theorem run_lenOf {x x' : Value} {n : Nat} (h : AM.lenOf x = some n) (hx : VR ρ x x') : (Builtin.lenOf x').run P w = .ok n w := by
  unfold AM.lenOf at h
  split at h
  · obtain ⟨a', c', rfl, _⟩ := hx.slice_move
    cases h; simp [Builtin.lenOf]
  · cases hx; cases h; simp [Builtin.lenOf]
  · cases h

theorem run_appendCap (need old : Nat) (e : TypeId) (w : World) : ∃ k, need ≤ k ∧ (choose (.appendCap need old e)).run P w = .ok k { w with drawn := w.drawn + 1 } := by
  refine ⟨need + w.tape w.drawn (.appendCap need old e) % (2 ^ 63 - need), by omega, ?_⟩
  simp [Question.forced, Question.cut]

theorem zeroCells_size (z : Array Value) (n : Nat) : (Builtin.zeroCells z n).size = n * z.size := by simp [Builtin.zeroCells]

theorem splice_end (l vs : List Value) (k : Nat) (h : k = l.length) : AM.splice l k vs = l ++ vs := by
  unfold AM.splice
  rw [List.take_of_length_le (by omega), List.drop_eq_nil_of_le (by omega), List.append_nil]

theorem VRP.spliceEnd {c l vs vs' : List Value} {k : Nat} (h : VRP ρ c l) (hv : VRL ρ vs vs') (hk : k = c.length) : VRP ρ (c ++ vs) (AM.splice l k vs') := by
  obtain ⟨hd, tl, rfl, h2⟩ := h
  have hl := h2.length
  refine ⟨hd ++ vs', tl.drop vs'.length, ?_, h2.append hv⟩
  unfold AM.splice
  rw [List.take_append_of_le_length (by omega), List.take_of_length_le (by omega), List.drop_append, List.drop_eq_nil_of_le (by omega)]
  simp
  congr 2
  omega

theorem gives_append (hT : T.Ok P) (hr : HR T ρ N s w) {ts : List TypeId} {base : Option Addr} {sLen sCap : Nat} {x x' sl v : Value} {s' : AS} {ty : TypeId} (h : aappend T s ts base sLen sCap x = some (v, s')) (hb : VR ρ (.slice base sLen sCap) sl) (hx : VR ρ x x') :
    Gives T P N ρ s w (Builtin.append_ ts.toArray ty #[sl, x']) v s' := by
  unfold aappend at h
  split at h
  rotate_left
  · cases h
  rename_i t tx ts
  split at h
  rotate_left
  · cases h
  rename_i e d hu hd
  split at h
  · cases h
  rename_i hnint
  obtain ⟨size, hs, g1⟩ := Option.bind_eq_some_iff.1 h
  obtain ⟨i, hi, g2⟩ := Option.bind_eq_some_iff.1 g1
  obtain ⟨z, hz, g3⟩ := Option.bind_eq_some_iff.1 g2
  obtain ⟨n, hn, g4⟩ := Option.bind_eq_some_iff.1 g3
  clear h g1 g2 g3
  obtain ⟨a', cap', rfl, hc, mv⟩ := hb.slice_move
  have hz0 : ∀ w, (zeroValue e).run P w = .ok z w := fun w => (run_zero (w := w) hT hz).1
  have hzs : z.cells.size = size := by
    unfold zeroOf at hz
    obtain ⟨i', hi', hz'⟩ := Option.bind_eq_some_iff.1 hz
    unfold AM.sizeOf at hs
    rw [hi'] at hs
    rw [hT.zsize e i' z hi' hz']; simpa using hs
  have hzeros : (d matches .int _) = false := by cases d <;> first | rfl | (simp at hnint)
  have hlen0 := run_lenOf (P := P) (w := w) hn hx
  have u1 := run_und (w := w) hT hu
  have u2 := run_und (w := w) hT hd
  have u3 := run_sizeOf (w := w) hT hs
  split at g4
  · rename_i hn0
    subst hn0
    by_cases hle : sLen ≤ (if sCap < capBase then sCap else capLow sCap)
    · rw [if_pos hle] at g4
      cases g4
      have hcap : sLen ≤ cap' := by
        split at hle
        · rename_i hlt; rw [hc.exact_eq hlt]; exact hle
        · rename_i hlt; exact Nat.le_trans hle (hc.low hlt)
      have hf : ∃ l, (Builtin.firstCells size 0 x').run P w = .ok l w ∧ l.toList = [] := by
        unfold AM.lenOf at hn
        split at hn
        · obtain ⟨a2, c2, rfl, _⟩ := hx.slice_move
          cases a2 with
          | none => exact ⟨#[], by simp [Builtin.firstCells], rfl⟩
          | some a2 => exact ⟨#[], by simp [Builtin.firstCells, loadCells, loadCellsFrom], rfl⟩
        · cases hx; refine ⟨_, by simp [Builtin.firstCells] <;> rfl, by simp⟩
        · cases hn
      obtain ⟨l, hf1, hf2⟩ := hf
      refine ⟨ρ, .slice a' sLen cap', w, ?_, hb, Post.refl hr⟩
      cases a' with
      | none => simp [Builtin.append_, u1, u2, hzeros, u3, hlen0, hcap, hf1]
      | some a' => simp [Builtin.append_, u1, u2, hzeros, u3, hlen0, hcap, hf1, hf2, storeCells]
    · rw [if_neg hle] at g4; cases g4
  · rename_i hn0
    obtain ⟨new, hnew, g5⟩ := Option.bind_eq_some_iff.1 g4
    clear g4
    split at g5
    · cases g5
    rename_i hlim
    simp only [not_or] at hlim
    obtain ⟨l1, l2, l3, l4⟩ := hlim
    have l1 : sLen + n ≤ 1048576 := by omega
    have l4 : new.length = n * size := by simpa using l4
    -- the growth
    have grow : ∀ (old : List Value) (s0 : AS), cap' < sLen + n → (∀ w0 : World, w0.heap = w.heap → Same w w0 → ∃ old', (Builtin.firstCells size sLen (.slice a' sLen cap')).run P w0 = .ok old'.toArray w0 ∧ VRL ρ old old') → old.length = sLen * size → HR T ρ N s0 w → s0.next = s.next →
        Post T N ρ s w ρ s0 w → Gives T P N ρ s w (Builtin.append_ (t :: tx :: ts).toArray ty #[.slice a' sLen cap', x']) (s.grownSlice (sLen + n) (sLen + n)) (s0.grown (old ++ new) e (sLen + n)) := by
      intro old s0 hlt hold hlen hr0 hnx hp0
      obtain ⟨k, hkd⟩ : ∃ k, k = sLen + n + w.tape w.drawn (.appendCap (sLen + n) cap' e) % (9223372036854775808 - (sLen + n)) := ⟨_, rfl⟩
      have hk : sLen + n ≤ k := by rw [hkd]; omega
      obtain ⟨old', ho1, ho2⟩ := hold w.drew rfl ⟨rfl, rfl, rfl⟩
      have hr1 : HR T ρ N s w.drew := (hr.same (w' := w.drew) rfl ⟨rfl, rfl, rfl⟩).hr
      obtain ⟨new', hn1, hn2⟩ := run_firstCells (P := P) hr1 hnew hx
      have hfit : Builtin.nextslicecap (sLen + n) cap' * i.bytes ≤ 281474976710656 := growslice_fits hlt (by
        have : (sLen + n) * i.bytes ≤ 1048576 * 65536 := Nat.mul_le_mul (by omega) (by omega)
        omega)
      have hfit' : ¬ (281474976710656 < Builtin.nextslicecap (sLen + n) cap' * i.bytes) := by omega
      have hbig : ¬ ((9223372036854775807 : Int) < (sLen : Int) + (n : Int)) := by omega
      have hno : ¬ (sLen + n ≤ cap') := by omega
      have hl1 := ho2.length; have hl2 := hn2.length
      obtain ⟨ρ', hv, hp⟩ := hr0.grown (l := old ++ new) (c' := old'.toArray ++ new'.toArray ++ Builtin.zeroCells z.cells (k - (sLen + n))) (e := e) (lb := sLen + n) (k := k) (len := sLen + n)
        ⟨old' ++ new', (Builtin.zeroCells z.cells (k - (sLen + n))).toList, by simp, ho2.append hn2⟩ hs (by
          simp only [Array.size_append, List.size_toArray, zeroCells_size, hzs]
          rw [hl1, hl2, hlen, l4, ← Nat.add_mul, ← Nat.add_mul]; congr 1; omega) hk (Nat.lt_of_le_of_lt l1 (by decide))
        (w.drew.alloc (.cells (old'.toArray ++ new'.toArray ++ Builtin.zeroCells z.cells (k - (sLen + n))) e (0, 0))) rfl ⟨rfl, rfl, rfl⟩
      have hv' : VR ρ' (s.grownSlice (sLen + n) (sLen + n)) (.slice (some ⟨w.heap.size, 0, none⟩) (sLen + n) k) := by
        unfold AS.grownSlice at hv ⊢; rw [hnx] at hv; exact hv
      refine ⟨ρ', _, _, ?_, hv', hp0.trans hp⟩
      simp [Builtin.append_, u1, u2, hzeros, u3, hlen0, hno, run_info hT hi, hbig, hfit', Question.forced, Question.cut, ho1, hn1, hz0, newRow, ← hkd]
      rw [hkd, Nat.add_sub_cancel_left]
      first | done | rfl | (rw [Array.append_assoc]; done) | (congr 2; apply Array.ext'; simp)
    split at g5
    · rename_i hex
      obtain rfl := hc.exact_eq hex
      split at g5
      · rename_i hle
        cases base with
        | none => cases g5
        | some a =>
          obtain ⟨s1, hst, g6⟩ := Option.map_eq_some_iff.1 g5
          cases g6
          obtain ⟨new', hn1, hn2⟩ := run_firstCells (P := P) hr hnew hx
          obtain ⟨b, w', k1, k2, k3⟩ := run_storeAt (P := P) hr hst hn2
          obtain ⟨b0, c0, hb0, hc0, e0⟩ := hb
          cases e0
          have hbb : b = b0 := by have : ρ a.block = some b := k1; rw [hb0] at this; exact (Option.some.inj this).symm
          subst hbb
          refine ⟨ρ, .slice (some ⟨b, a.off, a.spot⟩) (sLen + n) cap', w', ?_, ⟨b, cap', hb0, CR.exact hex, rfl⟩, k3⟩
          have hadd : (⟨b, a.off, a.spot⟩ : Addr).add (sLen * size) = ⟨b, a.off + sLen * size, a.spot⟩ := by
            have hsp : a.spot = none := by
              unfold storeAt at hst
              simp only [cond_eq_ite] at hst
              split at hst
              · cases hst
              · rename_i hq; cases hq2 : a.spot <;> simp_all
            unfold Addr.add
            split
            · rename_i h0; simp [h0]
            · simp [hsp]
          simp [Builtin.append_, u1, u2, hzeros, u3, hlen0, hle, hn1, hadd, k2]
      · rename_i hgt
        obtain ⟨old, hold, g6⟩ := Option.bind_eq_some_iff.1 g5
        split at g6
        · rename_i hlo
          cases g6
          exact grow old s (by omega) (fun w0 hw0 hs0 => run_firstCells (P := P) (hr.same (w' := w0) hw0 hs0).hr hold hb) hlo hr rfl (Post.refl hr)
        · cases g6
    · rename_i hex
      split at g5
      rotate_left
      · cases g5
      rename_i b
      split at g5
      · cases g5
      rename_i hlm
      split at g5
      rotate_left
      · cases g5
      rename_i c e' g hk
      split at g5
      rotate_left
      · cases g5
      rename_i hcond
      obtain ⟨hg, hcl, he', hsing⟩ := hcond
      subst hg; subst he'
      cases g5
      have hlim : s.lim ≤ b := by omega
      obtain ⟨b1, ob, k1, k2, ⟨c', fz, rfl, hvp, hcap⟩, k5⟩ := hr.k.obj _ _ hk
      obtain ⟨hN, hf⟩ := k5 hlim
      obtain ⟨k, size', q1, q2, q3, q4, q5⟩ := hcap _ rfl
      obtain rfl : size' = size := by rw [hs] at q4; exact (Option.some.inj q4).symm
      have hkc : cap' = k := by
        unfold CR at hc
        rw [if_neg hex] at hc
        obtain ⟨k0, r1, r2, r3⟩ := hc
        rw [q1] at r1; cases r1; omega
      subst hkc
      have ha' : a' = some ⟨b1, 0, none⟩ := by
        obtain ⟨b2, c2, r1, r2, r3⟩ := hb
        rw [k1] at r1; cases r1
        injection r3
      subst ha'
      by_cases hle : sLen + n ≤ cap'
      · obtain ⟨new', hn1, hn2⟩ := run_firstCells (P := P) hr hnew hx
        have hl2 := hn2.length
        have hroom : sLen * size' + 0 + new'.length ≤ c'.size := by
          rw [q5, hl2, l4, Nat.add_zero, ← Nat.add_mul]; exact Nat.mul_le_mul_right _ hle
        obtain ⟨w', c2, r1, r2, r3, r4⟩ := run_storeCells P (off := sLen * size') new' 0 w c' k2 hf hroom (hn2.single hsing)
        have p1 := hr.name cap'
        obtain ⟨d1, d2, d3, d4⟩ := capId_mk (id := s.next) (off := 0) (lb := sLen + n) (by decide) (Nat.lt_of_le_of_lt l1 (by decide))
        have hid : upd ρ s.next cap' s.next = some cap' := upd_self
        have p2 := p1.hr.turn (id := b) (b := b1) (o := .cells c e' (some g)) (o' := .cells (c ++ new) e' (some (mkCap s.next 0 (sLen + n)))) (ob' := .cells c2 e' fz) hk hlim (p1.sub _ _ k1) r2
          ⟨c2, fz, rfl, by rw [r3, Nat.add_zero]; exact (hvp.spliceEnd hn2 hcl.symm).mono p1.sub, fun cap hc => by
            cases hc
            exact ⟨cap', size', by rw [d1]; exact hid, by omega, d2, q4, by rw [r4]; exact q5⟩⟩ (fun off ho => hf off (by omega))
        refine ⟨_, .slice (some ⟨b1, 0, none⟩) (sLen + n) cap', w', ?_, ⟨b1, cap', upd_self, ?_, rfl⟩, p1.trans p2⟩
        · have hadd : (⟨b1, 0, none⟩ : Addr).add (sLen * size') = ⟨b1, sLen * size', none⟩ := by
            unfold Addr.add; split
            · rename_i h0; simp [h0]
            · simp
          simp [Builtin.append_, u1, u2, hzeros, u3, hlen0, hle, hn1, hadd, r1]
        · unfold CR
          rw [if_neg d4, d1, d2, d3]
          exact ⟨cap', p2.sub _ _ hid, by omega, hle⟩
      · refine grow c (s.del b) (by omega) (fun w0 hw0 hs0 => ?_) hcl (hr.del b).hr rfl (hr.del b)
        refine run_firstCells (P := P) (x := .slice (some ⟨b, 0, none⟩) sLen g) (hr.same (w' := w0) hw0 hs0).hr ?_ hb
        simp only [AM.firstCells, cellsAt, Option.isSome_none, cond_false, hk, Nat.zero_add]
        have hble : Nat.ble (sLen * size') c.length = true := Nat.ble_eq_true_of_le (by omega)
        rw [hble, ← hcl]
        simp
end

end Go.AM

namespace Go.AM

section
variable {T : Tab} {P : Program} {N : Nat} {ρ : Env} {s : AS} {w : World}

theorem push_modify {α : Type} (a : Array α) (x : α) (f : α → α) : (a.push x).modify a.size f = a.push (f x) := by
  apply Array.ext_getElem?
  intro i
  rw [Array.getElem?_modify]
  by_cases h : a.size = i
  · subst h; simp
  · rw [if_neg h, Array.getElem?_push, Array.getElem?_push]
    simp [Ne.symm h]

theorem gives_stringToBytes (hT : T.Ok P) (hr : HR T ρ N s w) {e : TypeId} {b : ByteArray} (hb : b.size ≤ 1048576) :
    Gives T P N ρ s w (Conv.stringToBytes e b) (.slice (some ⟨s.next + 1, 0, none⟩) b.size (mkCap s.next 0 b.size)) (AS.new { s with next := s.next + 1 } (.cells (b.data.toList.map fun c => .int .u8 c.toNat) e none)) := by
  obtain ⟨k, hk⟩ : ∃ k, k = b.size + w.tape w.drawn (.appendCap b.size 0 e) % (9223372036854775808 - b.size) := ⟨_, rfl⟩
  have p1 := hr.name k
  have hid : upd ρ s.next k s.next = some k := upd_self
  obtain ⟨d1, d2, d3, d4⟩ := capId_mk (id := s.next) (off := 0) (lb := b.size) (by decide) (Nat.lt_of_le_of_lt hb (by decide))
  let arr : Array Value := (b.data.map fun c => .int .u8 c.toNat) ++ Array.replicate (k - b.size) (.int .u8 0)
  have harr : arr.toList = b.data.toList.map (fun c => .int .u8 c.toNat) ++ List.replicate (k - b.size) (.int .u8 0) := by
    simp only [arr, Array.toList_append, Array.toList_map, Array.toList_replicate]
  have p2 := p1.hr.new (o := .cells (b.data.toList.map fun c => .int .u8 c.toNat) e none) (ob := .cells arr e (arr.size, arr.size + 1))
    ⟨arr, _, rfl, ⟨b.data.toList.map fun c => .int .u8 c.toNat, List.replicate (k - b.size) (.int .u8 0), harr, VRL.self _ fun x hx => by obtain ⟨c, _, rfl⟩ := List.mem_map.1 hx; rfl⟩, fun cap hc => by cases hc⟩
    (fun off ho h => by simp only at h; omega) { w with heap := w.heap.push (.cells arr e (arr.size, arr.size + 1)), drawn := w.drawn + 1 } rfl ⟨rfl, rfl, rfl⟩
  refine ⟨_, .slice (some ⟨w.heap.size, 0, none⟩) b.size k, _, ?_, ⟨w.heap.size, k, upd_self, ?_, rfl⟩, p1.trans p2⟩
  · have hk' : b.size + w.tape w.drawn (.appendCap b.size 0 e) % (2 ^ 63 - b.size) = k := hk.symm
    simp only [Conv.stringToBytes, Sem.run_bind, run_choose, Question.forced, Question.cut, Bool.false_eq_true, if_false, Result.andThen_ok, newRow, run_newObj, Sem.run_pure, markStringish, run_shape, hk']
    have h1 : World.shape? { heap := w.heap.push (.cells arr e), tape := w.tape, drawn := w.drawn + 1, os := w.os, output := w.output } w.heap.size = some (e, arr.size) := by simp [World.shape?]
    simp only [show ((b.data.map fun c => Value.int .u8 c.toNat) ++ Array.replicate (k - b.size) (.int .u8 0)) = arr from rfl, h1, run_freeze, Result.andThen_ok]
    congr 1
    simp only [World.freeze, Nat.one_ne_zero, if_false]
    rw [push_modify]
    simp
  · unfold CR
    rw [if_neg d4, d1, d2, d3]
    exact ⟨k, p2.sub _ _ hid, by omega, by omega⟩

theorem viewAt_none {b : Nat} {c : Array Value} {e : TypeId} {fz : Nat × Nat} (h : w.heap[b]? = some (.cells c e fz)) : (viewAt b).run P w = .ok none w := by
  have : w.shape? b = some (e, c.size) := by simp [World.shape?, h]
  simp [viewAt, this]

theorem cells_real (hr : HR T ρ N s w) {id : Nat} {c : List Value} {e : TypeId} {g : Option Nat} (h : s.heap.get id = some (.cells c e g)) :
    ∃ b c' fz, ρ id = some b ∧ w.heap[b]? = some (.cells c' e fz) ∧ VRP ρ c c'.toList ∧ c.length ≤ c'.size := by
  obtain ⟨b, ob, h1, h2, ⟨c', fz, rfl, h3, _⟩, _⟩ := hr.k.obj _ _ h
  refine ⟨b, c', fz, h1, h2, h3, ?_⟩
  obtain ⟨hd, tl, e1, e2⟩ := h3
  have := e2.length
  have : c'.size = hd.length + tl.length := by rw [← Array.length_toList, e1]; simp
  omega

theorem run_liesAt (hT : T.Ok P) {u : TypeId} {size n count : Nat} (hs : AM.sizeOf T u = some (size + 1)) (hn : n ≤ count) : liesAt P P.depth u count 0 u n = true := by
  have hc : P.cellsOf u = size + 1 := by
    unfold AM.sizeOf at hs
    obtain ⟨i, hi, h⟩ := Option.map_eq_some_iff.1 hs
    simp [Program.cellsOf, hT.info u i hi, h]
  obtain ⟨d, hd⟩ : ∃ d, P.depth = d + 1 := ⟨P.depth - 1, by have := hT.depth; omega⟩
  rw [hd]
  simp only [liesAt]
  rw [hd]
  simp only [rowAt, hc]
  simp [sameLayout, hn]

theorem gives_aconv (hT : T.Ok P) (hr : HR T ρ N s w) {src dst : TypeId} {x x' v : Value} {s' : AS} (h : aconv T s src dst x = some (v, s')) (hx : VR ρ x x') : Gives T P N ρ s w (Go.convert src dst x') v s' := by
  unfold aconv at h
  split at h
  · rename_i d k j n hu hv
    cases hx; cases h
    refine Gives.of_pure hr ⟨.int k (k.wrap n), ?_, rfl⟩
    simp [convert, run_und hT hu, run_und hT hv, Conv.intToInt]
  · rename_i d j n hu hv
    cases hx; cases h
    refine Gives.of_pure hr ⟨.string (Utf8.encode n), ?_, rfl⟩
    simp [convert, run_und hT hu, run_und hT hv, Conv.intToString]
  · rename_i d b hu hv
    cases hx; cases h
    refine Gives.of_pure hr ⟨.string b, ?_, rfl⟩
    simp [convert, run_und hT hu, run_und hT hv]
  · rename_i d e b hu hv
    cases hx
    split at h
    · rename_i he
      split at h
      · rename_i hsz
        cases h
        obtain ⟨ρ', v', w', h1, h2, h3⟩ := gives_stringToBytes (P := P) hT hr (e := e) hsz
        exact ⟨ρ', v', w', by simp [convert, run_und hT hu, run_und hT hv, run_und hT he, h1], h2, h3⟩
      · cases h
    · cases h
  · rename_i t a hu hv
    obtain ⟨b, hb, rfl⟩ := hx
    split at h
    · rename_i c e g n hsp hk hs
      split at h
      · rename_i hlt
        cases h
        obtain ⟨b', c', fz, k1, k2, k3, k4⟩ := cells_real hr hk
        rw [hb] at k1; cases k1
        have hsh : w.shape? b = some (e, c'.size) := by simp [World.shape?, k2]
        refine Gives.of_pure hr ⟨.pointer (some ⟨b, a.off, a.spot⟩), ?_, b, hb, rfl⟩
        have hno : ¬ (c'.size ≤ a.off) := by omega
        simp [convert, run_und hT hu, run_und hT hv, Conv.unsafePointer, Conv.seenAt, viewAt_none (P := P) k2, cellsIn, hsh, run_sizeOf hT hs, hno]
      · cases h
    · cases h
  · rename_i u a hu hv
    obtain ⟨b, hb, rfl⟩ := hx
    split at h
    · rename_i c e g n hk hs
      split at h
      · rename_i hcnd
        cases h
        obtain ⟨rfl, ho, hsp, hlt⟩ := hcnd
        obtain ⟨b', c', fz, k1, k2, k3, k4⟩ := cells_real hr hk
        rw [hb] at k1; cases k1
        have hsh : w.shape? b = some (e, c'.size) := by simp [World.shape?, k2]
        refine Gives.of_pure hr ⟨.pointer (some ⟨b, a.off, a.spot⟩), ?_, b, hb, rfl⟩
        have hc : P.cellsOf e = n + 1 := by
          unfold AM.sizeOf at hs
          obtain ⟨i, hi, h⟩ := Option.map_eq_some_iff.1 hs
          simp [Program.cellsOf, hT.info e i hi, h]
        have hl : liesAt P P.depth e (c'.size / P.cellsOf e) a.off e 1 = true := by
          rw [ho]
          refine run_liesAt hT hs ?_
          rw [hc, Nat.le_div_iff_mul_le (by omega)]; omega
        simp [convert, run_und hT hu, run_und hT hv, Conv.unsafePointer, Conv.seenAt, viewAt_none (P := P) k2, variablesAt, hsh, run_sizeOf hT hs, hl]
      · cases h
    · cases h
  · cases h

theorem gives_acopy (hT : T.Ok P) (hr : HR T ρ N s w) {ts : List TypeId} {base : Option Addr} {dLen c : Nat} {src src' sl v : Value} {s' : AS} {ty : TypeId} (h : acopy T s ts base dLen src = some (v, s')) (hb : VR ρ (.slice base dLen c) sl) (hx : VR ρ src src') :
    Gives T P N ρ s w (Builtin.copy_ ts.toArray ty #[sl, src']) v s' := by
  unfold acopy at h
  split at h
  · rename_i t ts
    split at h
    · rename_i e hu
      obtain ⟨size, hs, g1⟩ := Option.bind_eq_some_iff.1 h
      obtain ⟨m, hm, g2⟩ := Option.bind_eq_some_iff.1 g1
      obtain ⟨cells, hc, g3⟩ := Option.bind_eq_some_iff.1 g2
      obtain ⟨l', h1, h2⟩ := run_firstCells (P := P) hr hc hx
      have hl := run_lenOf (P := P) (w := w) hm hx
      cases base with
      | none =>
        obtain ⟨c', _, rfl⟩ := hb
        simp only [Option.some.injEq, Prod.mk.injEq] at g3
        obtain ⟨rfl, rfl⟩ := g3
        exact Gives.of_pure hr ⟨_, by simp [Builtin.copy_, run_und hT hu, run_sizeOf hT hs, hl, h1] <;> rfl, rfl⟩
      | some a =>
        obtain ⟨b, c', hb1, _, rfl⟩ := hb
        obtain ⟨s1, hst, g4⟩ := Option.map_eq_some_iff.1 g3
        simp only [Prod.mk.injEq] at g4
        obtain ⟨rfl, rfl⟩ := g4
        obtain ⟨b', w', k1, k2, k3⟩ := run_storeAt (P := P) hr hst h2
        rw [hb1] at k1; cases k1
        exact ⟨ρ, _, w', by simp [Builtin.copy_, run_und hT hu, run_sizeOf hT hs, hl, h1, k2] <;> rfl, rfl, k3⟩
    · cases h
  · cases h
end

end Go.AM

namespace Go.AM

section
variable {T : Tab} {P : Program} {N : Nat} {ρ : Env} {s : AS} {w : World}

/-- A block of the state's own turns into something not known. -/
theorem HR.spoil (h : HR T ρ N s w) {w' : World} {id b : Nat} {o : AO} {ob' : Obj} (hk : s.K id o) (hm : s.lim ≤ id) (hb : ρ id = some b) (hu : Upd w w' b ob') :
    Post T N ρ s w ρ (s.del id) w' := by
  have hbl := h.lt hk hb
  have hK : ∀ i x, (s.del id).K i x → i ≠ id ∧ s.K i x := fun i x hx => by
    rcases Tr.get_set 48 s.heap id none i x hx with ⟨_, e2⟩ | e
    · cases e2
    · exact e
  refine { hr := ⟨⟨fun i x hx => ?_, fun i j x y c hx hy => h.k.inj i j x y c (hK i x hx).2 (hK j y hy).2, by rw [hu.size]; exact h.k.size⟩, h.fresh, h.glob⟩, sub := Sub.refl _, lim := rfl, next := Nat.le_refl _, own := fun i x c h1 hx h3 => .inr ⟨i, x, h1, (hK i x hx).2, h3⟩, seen := fun i x c hx h3 => .inr ⟨i, x, (hK i x hx).2, h3⟩, frame := fun c hc hn => ?_, size := by rw [hu.size]; exact Nat.le_refl _, env := hu.env }
  · obtain ⟨hne, hx'⟩ := hK i x hx
    obtain ⟨c, oc, e1, e2, e3, e4⟩ := h.k.obj i x hx'
    refine ⟨c, oc, e1, ?_, e3, e4⟩
    rw [hu.other c (fun e => hne (h.k.inj i id x o b hx' hk (by rw [← e]; exact e1) hb))]
    exact e2
  · exact hu.other c (fun e => hn id o hm hk (by rw [e]; exact hb))

theorem Upd.freeze {b : Nat} {c : Array Value} {e : TypeId} {fz : Nat × Nat} (h : w.heap[b]? = some (.cells c e fz)) (off n : Nat) :
    ∃ ob, Upd w (w.freeze ⟨b, off, none⟩ n) b ob := by
  unfold World.freeze
  split
  · exact ⟨_, rfl, fun _ => h, fun _ _ => rfl, Same.refl _⟩
  · refine ⟨(match (Obj.cells c e fz) with
      | .cells c elem (lo, hi) => .cells c elem (if lo == hi then (off, off + n) else (min lo off, max hi (off + n)))
      | o => o), by simp, fun hb => ?_, fun i hi => ?_, ⟨rfl, rfl, rfl⟩⟩
    · simp only [Array.getElem?_modify, if_true, h, Option.map_some]
    · simp only [Array.getElem?_modify]; rw [if_neg (Ne.symm hi)]

theorem bytesOf_length : ∀ (l : List Value) (bs : List UInt8), AM.bytesOf l = some bs → bs.length = l.length := by
  intro l
  induction l with
  | nil => intro bs h; cases h; rfl
  | cons v l ih =>
    intro bs h
    unfold AM.bytesOf at h
    split at h
    · rename_i e; cases e
    · rename_i n vs e
      cases e
      obtain ⟨l', h1, rfl⟩ := Option.map_eq_some_iff.1 h
      simp [ih _ h1]
    · cases h

theorem run_loadBytes {b : Nat} {c : Array Value} {e : TypeId} {fz : Nat × Nat} (h : w.heap[b]? = some (.cells c e fz)) : ∀ (l : List Value) (bs : List UInt8) (i : Nat) (acc : ByteArray), AM.bytesOf l = some bs → (∀ j v, l[j]? = some v → c[i + j]? = some v) →
    (Go.loadBytes ((⟨b, 0, none⟩ : Addr).add i) acc l.length).run P w = .ok ⟨acc.data ++ bs.toArray⟩ w := by
  intro l
  induction l with
  | nil => intro bs i acc hb _; cases hb; simp [Go.loadBytes]
  | cons v l ih =>
    intro bs i acc hb hc
    unfold AM.bytesOf at hb
    split at hb
    · rename_i e; cases e
    · rename_i n vs e
      cases e
      obtain ⟨l', h1, rfl⟩ := Option.map_eq_some_iff.1 hb
      have h0 := hc 0 _ rfl
      have hcell : w.cell? ((⟨b, 0, none⟩ : Addr).add i) = some (.int .u8 n) := by
        rw [cell?_at h]; simpa using h0
      have hadd : ((⟨b, 0, none⟩ : Addr).add i).add 1 = (⟨b, 0, none⟩ : Addr).add (i + 1) := by
        cases i <;> simp [Addr.add]
      simp only [List.length_cons, Go.loadBytes, Sem.run_bind, run_load, hcell, Result.andThen_ok, hadd]
      rw [ih l' (i + 1) _ h1 (fun j v hj => by have := hc (j + 1) v (by simpa using hj); rwa [show i + (j + 1) = i + 1 + j by omega] at this)]
      congr 2
      simp [ByteArray.push]
    · cases hb

theorem gives_unsafeString (hT : T.Ok P) (hr : HR T ρ N s w) {a : Addr} {k : IntKind} {n : Int} {t u : TypeId} {ts : List TypeId} {p' v : Value} {s' : AS} {ty : TypeId} (hu : T.und t = some (.pointer u)) (hs : AM.sizeOf T u = some 1) (hn0 : 0 ≤ n) (hn1 : n ≤ 1048576)
    (h : (if n = 0 then some (.string .empty, s)
            else if a.off = 0 ∧ s.lim ≤ a.block ∧ a.spot = none then
              match s.heap.get a.block with
              | some (.cells c e _) => if e = u ∧ n.toNat ≤ c.length then (AM.bytesOf (c.take n.toNat)).map fun l => (Value.string ⟨l.toArray⟩, s.del a.block) else none
              | _ => none
            else none) = some (v, s')) (hp : VR ρ (.pointer (some a)) p') :
    Gives T P N ρ s w (Builtin.unsafeString_ (t :: ts).toArray ty #[p', .int k n]) v s' := by
  obtain ⟨b, hb, rfl⟩ := hp
  have hmx : IntKind.i64.max = 9223372036854775807 := rfl
  have hmax : ¬ (9223372036854775807 < n) := by omega
  have hneg : ¬ n < 0 := by omega
  have hdef : Builtin.unsafeString_ (t :: ts).toArray ty #[.pointer (some ⟨b, a.off, a.spot⟩), .int k n] =
      (do
        let n ← asInt (.int k n)
        if n < 0 then runtimePanic (.error "unsafe.String: len out of range")
        if n > IntKind.i64.max then unsupported (.unsafePointer "String: a length above the largest int")
        if n = 0 then pure (.string .empty)
        else if ← variablesAt ⟨b, a.off, a.spot⟩ (← elemOf t) n.toNat then do
          let s ← loadBytes ⟨b, a.off, a.spot⟩ .empty n.toNat
          freeze ⟨b, a.off, a.spot⟩ n.toNat
          pure (.string s)
        else unsupported (.unsafePointer "String: not so many bytes at ptr")) := rfl
  unfold Gives
  rw [hdef]
  split at h
  · rename_i h0
    cases h
    exact Gives.of_pure hr ⟨.string .empty, by simp [asInt, asIntOf, hmx, hmax, h0] <;> omega, rfl⟩
  · rename_i hne
    split at h
    · rename_i hc
      obtain ⟨h1, h2, h3⟩ := hc
      split at h
      · rename_i c e g hk
        split at h
        · rename_i hcnd
          obtain ⟨rfl, hlen⟩ := hcnd
          obtain ⟨l, hl, h⟩ := Option.map_eq_some_iff.1 h
          cases h
          obtain ⟨b', c', fz, k1, k2, k3, k4⟩ := cells_real hr hk
          rw [hb] at k1; cases k1
          obtain ⟨ob, hup⟩ := Upd.freeze k2 0 n.toNat
          refine ⟨ρ, .string ⟨l.toArray⟩, _, ?_, rfl, hr.spoil hk h2 hb hup⟩
          have hsh : w.shape? b = some (e, c'.size) := by simp [World.shape?, k2]
          have hcs : P.cellsOf e = 1 := by
            unfold AM.sizeOf at hs
            obtain ⟨i, hi, h⟩ := Option.map_eq_some_iff.1 hs
            simp [Program.cellsOf, hT.info e i hi, h]
          have hlies : liesAt P P.depth e (c'.size / P.cellsOf e) 0 e n.toNat = true := by
            refine run_liesAt hT hs ?_
            rw [hcs, Nat.div_one]; omega
          have hvals : ∀ j v, (c.take n.toNat)[j]? = some v → c'[0 + j]? = some v := by
            intro j v hj
            obtain ⟨hd, tl, e1, e2⟩ := k3
            have hvr := VRL.get? (VRL.take e2 n.toNat) hj
            obtain ⟨y, hy, hxy⟩ := hvr
            have hint : ∃ m, v = Value.int .u8 m := by
              clear hxy hy
              have : ∀ (l : List Value) (bs : List UInt8), AM.bytesOf l = some bs → ∀ (j : Nat) (v : Value), l[j]? = some v → ∃ m, v = Value.int .u8 m := by
                intro l
                induction l with
                | nil => intro bs _ j v hj; simp at hj
                | cons x l ih =>
                  intro bs hb j v hj
                  unfold AM.bytesOf at hb
                  split at hb
                  · rename_i e; cases e
                  · rename_i m vs e
                    cases e
                    obtain ⟨l', h1, rfl⟩ := Option.map_eq_some_iff.1 hb
                    cases j with
                    | zero => simp at hj; exact ⟨m, hj.symm⟩
                    | succ j => exact ih _ h1 j v (by simpa using hj)
                  · cases hb
              exact this _ _ hl j v hj
            obtain ⟨m, rfl⟩ := hint
            cases hxy
            rw [Nat.zero_add, ← Array.getElem?_toList, e1]
            have hj2 : hd[j]? = some (.int .u8 m) := by
              rw [List.getElem?_take] at hy
              split at hy
              · exact hy
              · cases hy
            rw [List.getElem?_append_left (by
              rcases Nat.lt_or_ge j hd.length with h | h
              · exact h
              · rw [List.getElem?_eq_none h] at hj2; cases hj2)]
            exact hj2
          have hload := run_loadBytes (P := P) k2 (c.take n.toNat) l 0 .empty hl hvals
          have hl2 : (c.take n.toNat).length = n.toNat := by simp; omega
          rw [hl2] at hload
          rw [show (⟨b, 0, none⟩ : Addr).add 0 = ⟨b, 0, none⟩ from rfl] at hload
          simp only [h1, h3]
          simp [asInt, asIntOf, hmx, hmax, hneg, hne, variablesAt, hsh, elemOf, run_und hT hu, hlies, hload]
        · cases h
      · cases h
    · cases h

theorem gives_abuiltin (hT : T.Ok P) (hr : HR T ρ N s w) {b : Builtin} {ts : List TypeId} {args args' : List Value} {v : Value} {s' : AS} (h : abuiltin T s b ts args = some (v, s')) (ha : VRL ρ args args') (ty : TypeId) (cs : Array Bool) :
    ∃ m : Sem Value, builtin b ts.toArray ty cs args'.toArray = (do pure (.value (← m))) ∧ Gives T P N ρ s w m v s' := by
  unfold abuiltin at h
  split at h
  · obtain ⟨sl, _, h1, ⟨x', _, h2, rfl, rfl⟩, rfl⟩ := ha
    exact ⟨_, rfl, gives_append hT hr h h1 h2⟩
  · obtain ⟨sl, _, h1, ⟨x', _, h2, rfl, rfl⟩, rfl⟩ := ha
    exact ⟨_, rfl, gives_acopy hT hr h h1 h2⟩
  · obtain ⟨x', _, h2, rfl, rfl⟩ := ha
    obtain ⟨v1, h3, h4⟩ := Option.map_eq_some_iff.1 h
    cases h4
    exact ⟨_, rfl, Gives.of_pure hr (run_alen hT hr h3 h2)⟩
  · obtain ⟨x', _, h2, rfl, rfl⟩ := ha
    refine ⟨_, rfl, ?_⟩
    split at h
    · split at h
      · rename_i t ts d e hu
        split at h
        · rename_i hc
          cases h
          obtain ⟨a', c', rfl, h3, _⟩ := h2.slice_move
          cases h3.exact_eq hc
          exact Gives.of_pure hr ⟨goInt _, by simp [Builtin.cap_, run_und hT hu], rfl⟩
        · cases h
      · cases h
    · cases h
  · rename_i a l c
    obtain ⟨x', _, h2, rfl, rfl⟩ := ha
    refine ⟨_, rfl, ?_⟩
    by_cases hc : 0 < (if c < capBase then c else capLow c)
    · rw [if_pos hc] at h
      cases h
      obtain ⟨b', c', h3, h4, rfl⟩ := h2
      have hpos : c' ≠ 0 := by
        by_cases hcc : c < capBase
        · rw [if_pos hcc] at hc; rw [h4.exact_eq hcc]; omega
        · rw [if_neg hcc] at hc; have := h4.low hcc; omega
      obtain ⟨k, rfl⟩ : ∃ k, c' = k + 1 := ⟨c' - 1, by omega⟩
      exact Gives.of_pure hr ⟨.pointer (some ⟨b', a.off, a.spot⟩), rfl, b', h3, rfl⟩
    · rw [if_neg hc] at h; cases h
  · rename_i a k n
    obtain ⟨x', _, h2, ⟨y', _, h3, rfl, rfl⟩, rfl⟩ := ha
    cases h3
    refine ⟨_, rfl, ?_⟩
    split at h
    · rename_i t ts d
      split at h
      · rename_i u hu
        split at h
        · rename_i hu8 hs
          split at h
          · rename_i hn
            exact gives_unsafeString hT hr hu hs hn.1 hn.2 h h2
          · cases h
        · cases h
      · cases h
    · cases h
  · obtain ⟨v1, h3, h4⟩ := Option.map_eq_some_iff.1 h
    cases h4
    exact ⟨_, rfl, Gives.of_pure hr ⟨v, (run_minmax h3 ha ts.toArray ty).1, (run_minmax (P := P) (w := w) h3 ha ts.toArray ty).2⟩⟩
  · obtain ⟨v1, h3, h4⟩ := Option.map_eq_some_iff.1 h
    cases h4
    exact ⟨_, rfl, Gives.of_pure hr ⟨v, (run_minmax h3 ha ts.toArray ty).1, (run_minmax (P := P) (w := w) h3 ha ts.toArray ty).2⟩⟩
  · cases h
end

end Go.AM

