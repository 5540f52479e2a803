/-
  The machine, part 1 of 6: an abstract machine that runs Go code on blocks numbered by itself; what it means that a world is as its state says.
-/
import Derived.RangeFuncLeaves
import Derived.OrdersIn
import Derived.LoopNIn
import Derived.KernelRfl
import Derived.Below
set_option linter.unusedVariables false
namespace Go.AM

inductive Tr (α : Type) where
  | nil : Tr α
  | node (l : Tr α) (v : Option α) (r : Tr α) : Tr α

noncomputable def Tr.get {α : Type} (t : Tr α) : Nat → Option α :=
  Tr.rec (motive := fun _ => Nat → Option α) (fun _ => none) (fun _ v _ gl gr k =>
    bif Nat.beq k 0 then v
    else bif Nat.beq (Nat.mod k 2) 1 then gl (Nat.div k 2)
    else gr (Nat.sub (Nat.div k 2) 1)) t

noncomputable def Tr.set {α : Type} (d : Nat) : Tr α → Nat → Option α → Tr α :=
  Nat.rec (motive := fun _ => Tr α → Nat → Option α → Tr α) (fun _ _ _ => .nil) (fun _ ih t k o =>
    Tr.casesOn (motive := fun _ => Tr α) t
      (bif Nat.beq k 0 then .node .nil o .nil
       else bif Nat.beq (Nat.mod k 2) 1 then .node (ih .nil (Nat.div k 2) o) none .nil
       else .node .nil none (ih .nil (Nat.sub (Nat.div k 2) 1) o))
      (fun l v r => bif Nat.beq k 0 then .node l o r
       else bif Nat.beq (Nat.mod k 2) 1 then .node (ih l (Nat.div k 2) o) v r
       else .node l v (ih r (Nat.sub (Nat.div k 2) 1) o))) d

/-- What is known of a block. -/
inductive AO where
  | cells (c : List Value) (elem : TypeId) (grow : Option Nat)
  | map (es : List MapEntry) (clock : Nat)
  | loop (st : LoopState) (pending : Option Code) (tmps : List Value) (params : Array Tmp) (assign body : Code) (defers : Nat)
  | defs (isOpen : Bool)
  | iter (s : ByteArray) (pos : Nat)

structure AS where
  heap : Tr AO
  next : Nat
  lim : Nat

structure AAct where
  tmps : List Value
  defers : List Deferred

/-- List.set and List.getD, by recursors: for the kernel. -/
noncomputable def setN (l : List Value) : Nat → Value → List Value :=
  List.rec (motive := fun _ => Nat → Value → List Value) (fun _ _ => []) (fun x xs ih i v =>
    bif Nat.beq i 0 then v :: xs else x :: ih (Nat.sub i 1) v) l
noncomputable def getN (l : List Value) : Nat → Value :=
  List.rec (motive := fun _ => Nat → Value) (fun _ => undef) (fun x _ ih i => bif Nat.beq i 0 then x else ih (Nat.sub i 1)) l

noncomputable def AAct.eval (a : AAct) : Operand → Value
  | .tmp t => getN a.tmps t
  | .const v => v
  | .global g => .pointer (some ⟨g, 0, none⟩)
  | .func f => .func (.func f) #[] #[]

noncomputable def AAct.put (a : AAct) (dst : Option Tmp) (v : Value) : AAct :=
  match dst with
  | some d => { a with tmps := setN a.tmps d v }
  | none => a

/-- Functions without a Go body. -/
inductive Ext
  | nothing | noEscape | makeNoZero (e : TypeId) | indexByteString | indexString | countString | typeOf (t rt : TypeId) | comparable (t : TypeId) (b : Bool)
  | marked | atomicLoad (k : IntKind) | atomicAdd (k : IntKind) | atomicStore | atomicCas (k : IntKind)
  | valueOf (l : List (TypeId × Int)) | rvType (rt : TypeId) (l : List (TypeId × Int)) | rvIsNil (l : List (TypeId × Int)) | rvElem (l : List (TypeId × Int × TypeId × Int))
  | rvSet (l : List (TypeId × Int × Int)) | kinds (l : List (TypeId × Int)) | rtElem (rt : TypeId) (l : List (TypeId × TypeId)) | rtRel (l : List (TypeId × TypeId × Bool)) | typeOfs (rt : TypeId) (l : List (TypeId × Unit))

/-- A program's tables, and what is known of functions without a walk. -/
structure Tab where
  fn : Nat → Option Func
  info : Nat → Option TypeInfo
  und : Nat → Option TypeDesc
  /-- struct types whose '==' is field by field -/
  plain : Nat → Bool
  ext : Nat → Option Ext
  nglob : Nat
  sum : Nat → Option (List Value → AS → Option (Value × AS))

abbrev capBase : Nat := 18446744073709551616
/-- A capacity that is not known: which one, less so many; at least so many. -/
noncomputable def mkCap (id off lb : Nat) : Nat := capBase * (capBase * (id + 1) + off) + lb
noncomputable def capLow (c : Nat) : Nat := c % capBase
noncomputable def capOff (c : Nat) : Nat := (c / capBase) % capBase
noncomputable def capId (c : Nat) : Nat := (c / capBase) / capBase - 1

noncomputable def AS.put (s : AS) (id : Nat) (o : AO) : AS := { s with heap := s.heap.set 48 id (some o) }
noncomputable def AS.del (s : AS) (id : Nat) : AS := { s with heap := s.heap.set 48 id none }
noncomputable def AS.new (s : AS) (o : AO) : AS := { s with heap := s.heap.set 48 s.next (some o), next := s.next + 1 }

noncomputable def single : Value → Bool
  | .agg _ | .tuple _ => false
  | _ => true

/-- n cells from an address on. -/
noncomputable def cellsAt (s : AS) (a : Addr) (n : Nat) : Option (List Value) :=
  bif a.spot.isSome then none else
  match s.heap.get a.block with
  | some (.cells c _ _) =>
    bif Nat.ble (a.off + n) c.length then some ((c.drop a.off).take n) else none
  | _ => none

noncomputable def storeAt (s : AS) (a : Addr) (vs : List Value) : Option AS :=
  bif a.spot.isSome then none else
  bif Nat.blt a.block s.lim then none else
  bif vs.all single then
    match s.heap.get a.block with
    | some (.cells c e g) =>
      bif Nat.ble (a.off + vs.length) c.length then some (s.put a.block (.cells (c.take a.off ++ (vs ++ c.drop (a.off + vs.length))) e g)) else none
    | _ => none
  else none

noncomputable def isAgg (T : Tab) (t : TypeId) : Option Bool :=
  match T.und t with
  | some (.struct _) => some true
  | some (.array _ _) => some true
  | some _ => some false
  | none => none

noncomputable def sizeOf (T : Tab) (t : TypeId) : Option Nat := (T.info t).map (·.size)
noncomputable def zeroOf (T : Tab) (t : TypeId) : Option Value := (T.info t).bind (·.zero)

noncomputable def loadVar (T : Tab) (s : AS) (t : TypeId) (a : Addr) : Option Value :=
  match isAgg T t with
  | some true => (sizeOf T t).bind fun n => (cellsAt s a n).map fun l => .agg l.toArray
  | some false => (cellsAt s a 1).bind List.head?
  | none => none

noncomputable def storeVar (T : Tab) (s : AS) (t : TypeId) (a : Addr) (v : Value) : Option AS :=
  (sizeOf T t).bind fun n => bif Nat.beq v.cells.size n then storeAt s a v.cells.toList else none

noncomputable def part (T : Tab) (t : TypeId) (cs : List Value) (off : Nat) : Option Value :=
  match isAgg T t with
  | some true => (sizeOf T t).map fun n => .agg ((cs.drop off).take n).toArray
  | some false => cs[off]?
  | none => none

/-- no address within -/
noncomputable def ground : Value → Bool
  | .bool _ | .int _ _ | .string _ => true
  | .agg cs => cs.toList.all fun
    | .bool _ | .int _ _ | .string _ => true
    | _ => false
  | _ => false

noncomputable def fieldsEq (f : Field → Option Bool) : List Field → Option Bool
  | [] => some true
  | x :: xs => if x.name = "_" then fieldsEq f xs else
    match f x with
    | some true => fieldsEq f xs
    | some false => some false
    | none => none

/-- '==' of two values of a type. -/
noncomputable def aeq (T : Tab) (s : AS) : Nat → TypeId → Value → Value → Option Bool
  | 0, _, _, _ => none
  | d + 1, t, x, y =>
    match T.und t, x, y with
    | some .bool, .bool a, .bool b => some (a == b)
    | some (.int _), .int k a, .int k' b => if k = k' then some (a == b) else none
    | some .string, .string a, .string b => some (a == b)
    | some (.pointer _), .pointer none, .pointer b => some b.isNone
    | some (.pointer _), .pointer (some _), .pointer none => some false
    | some (.pointer e), .pointer (some a), .pointer (some b) =>
      match sizeOf T e with
      | some (_ + 1) =>
        if a.block = b.block ∧ a.spot = none ∧ b.spot = none then some (a.off == b.off) else none
      | _ => none
    | some (.interface _), .nilIface, .nilIface => some true
    | some (.interface _), .nilIface, .iface _ _ => some false
    | some (.interface _), .iface _ _, .nilIface => some false
    | some (.interface _), .iface tx vx, .iface ty vy =>
      if tx = ty then
        match T.info tx with
        | some i => if i.comparable then aeq T s d tx vx vy else none
        | none => none
      else some false
    | some (.struct fs), .agg xs, .agg ys =>
      if T.plain t then
        fieldsEq (fun f => match part T f.type xs.toList f.offset, part T f.type ys.toList f.offset with
          | some u, some v => aeq T s d f.type u v
          | _, _ => none) fs.toList
      else none
    | some (.slice _), .slice none _ _, .slice b _ _ => some b.isNone
    | some (.slice _), .slice (some _) _ _, .slice none _ _ => some false
    | some (.map _ _), .map none, .map b => some b.isNone
    | some (.map _ _), .map (some _), .map none => some false
    | some (.func _ _ _), .nilFunc, .nilFunc => some true
    | some (.func _ _ _), .nilFunc, .func _ _ _ => some false
    | some (.func _ _ _), .func _ _ _, .nilFunc => some false
    | _, _, _ => none

/-- The guard ahead of '==': let through. -/
noncomputable def eqFree (T : Tab) (t : TypeId) (x y : Operand) (a b : Value) : Bool :=
  match a, b with
  | .nilIface, .nilIface => Region.isConst x || Region.isConst y
  | .agg _, .agg _ => T.plain t
  | _, _ => true

noncomputable def intOp (op : BinOp) (k : IntKind) (x y : Int) : Option Value :=
  match op with
  | .add => some (.int k (k.wrap (x + y)))
  | .sub => some (.int k (k.wrap (x - y)))
  | .mul => some (.int k (k.wrap (x * y)))
  | .quo => if y = 0 then none else some (.int k (k.wrap (x.tdiv y)))
  | .rem => if y = 0 then none else some (.int k (x.tmod y))
  | .and => some (.int k (k.wrap (BitVec.ofInt k.bits x &&& BitVec.ofInt k.bits y).toNat))
  | .or => some (.int k (k.wrap (BitVec.ofInt k.bits x ||| BitVec.ofInt k.bits y).toNat))
  | .xor => some (.int k (k.wrap (BitVec.ofInt k.bits x ^^^ BitVec.ofInt k.bits y).toNat))
  | .andNot => some (.int k (k.wrap (BitVec.ofInt k.bits x &&& ~~~ BitVec.ofInt k.bits y).toNat))
  | .eql => some (.bool (x == y))
  | .neq => some (.bool (x != y))
  | .lss => some (.bool (decide (x < y)))
  | .leq => some (.bool (decide (x ≤ y)))
  | .gtr => some (.bool (decide (x > y)))
  | .geq => some (.bool (decide (x ≥ y)))
  | _ => none

noncomputable def strOp (op : BinOp) (x y : ByteArray) : Option Value :=
  match op with
  | .add => if ((x.size + y.size : Nat) : Int) > IntKind.i64.max then none else some (.string (x ++ y))
  | .eql => some (.bool (x.toList == y.toList))
  | .neq => some (.bool (!(x.toList == y.toList)))
  | .lss => some (.bool (Op.bytesLess x.toList y.toList))
  | _ => none

noncomputable def abin (T : Tab) (s : AS) (op : BinOp) (t : TypeId) (ox oy : Operand) (x y : Value) : Option Value :=
  match op, x, y with
  | .shl, .int k a, .int _ b => if b < 0 then none else some (.int k (k.wrap (a * 2 ^ (min b.toNat k.bits))))
  | .shr, .int k a, .int _ b => if b < 0 then none else some (.int k (a.fdiv (2 ^ (min b.toNat k.bits))))
  | _, .int k a, .int k' b => if k = k' then intOp op k a b else none
  | _, .string a, .string b => strOp op a b
  | .eql, x, y => bif eqFree T t ox oy x y then (aeq T s 60 t x y).map .bool else none
  | .neq, x, y => bif eqFree T t ox oy x y then (aeq T s 60 t x y).map fun b => .bool (!b) else none
  | _, _, _ => none

noncomputable def aun (op : UnOp) (x : Value) : Option Value :=
  match op, x with
  | .neg, .int k n => some (.int k (k.wrap (0 - n)))
  | .xor, .int k n => intOp .xor k (if k.signed then -1 else k.max) n
  | .not, .bool b => some (.bool (!b))
  | _, _ => none

noncomputable def bytesOf : List Value → Option (List UInt8)
  | [] => some []
  | .int .u8 n :: vs => (bytesOf vs).map fun l => UInt8.ofNat n.toNat :: l
  | _ => none

noncomputable def aconv (T : Tab) (s : AS) (src dst : TypeId) (x : Value) : Option (Value × AS) :=
  match T.und src, T.und dst, x with
  | some _, some (.int k), .int _ n => some (.int k (k.wrap n), s)
  | some _, some .string, .int _ n => some (.string (Utf8.encode n), s)
  | some _, some .string, .string b => some (.string b, s)
  | some _, some (.slice e), .string b =>
    match T.und e with
    | some (.int .u8) =>
      if b.size ≤ 1048576 then some (.slice (some ⟨s.next + 1, 0, none⟩) b.size (mkCap s.next 0 b.size), AS.new { s with next := s.next + 1 } (.cells (b.data.toList.map fun c => .int .u8 c.toNat) e none)) else none
    | _ => none
  | some (.pointer t), some .unsafePointer, .pointer (some a) =>
    match a.spot, s.heap.get a.block, sizeOf T t with
    | none, some (.cells c _ _), some (_ + 1) => if a.off < c.length then some (x, s) else none
    | _, _, _ => none
  | some .unsafePointer, some (.pointer u), .pointer (some a) =>
    match s.heap.get a.block, sizeOf T u with
    | some (.cells c e _), some (n + 1) => if e = u ∧ a.off = 0 ∧ a.spot = none ∧ n < c.length then some (x, s) else none
    | _, _ => none
  | _, _, _ => none

noncomputable def bound (v : Value) (y : Nat) : Option Nat :=
  match v with
  | .int _ i => if 0 ≤ i ∧ i ≤ y then some i.toNat else none
  | _ => none

noncomputable def optBound (v : Option Value) (y : Nat) (d : Nat) : Option Nat :=
  match v with
  | some v => bound v y
  | none => some d

noncomputable def addTo (a : Addr) (n : Nat) : Addr := if n = 0 then a else ⟨a.block, a.off + n, none⟩

noncomputable def aslice (T : Tab) (t : TypeId) (x : Value) (lo hi mx : Option Value) : Option Value :=
  match T.und t, x with
  | some .string, .string b =>
    if mx.isSome then none else
    (optBound hi b.size b.size).bind fun h => (optBound lo h 0).map fun l => .string (b.extract l h)
  | some (.slice e), .slice a len cap =>
    (sizeOf T e).bind fun size =>
    if cap < capBase then
      (optBound mx cap cap).bind fun m => (if mx.isSome ∧ hi.isNone then none else if mx.isSome then optBound hi m len else optBound hi cap len).bind fun h => (optBound lo h 0).map fun l =>
        .slice (if m = l then a else a.map (addTo · (l * size))) (h - l) (m - l)
    else
      match mx with
      | some mx =>
        (bound mx (capLow cap)).bind fun m => (if hi.isNone then none else optBound hi m len).bind fun h => (optBound lo h 0).map fun l =>
          .slice (if m = l then a else a.map (addTo · (l * size))) (h - l) (m - l)
      | none =>
        (optBound hi (capLow cap) len).bind fun h => (optBound lo h 0).bind fun l =>
          if l = 0 then some (.slice a h cap)
          else if l < capLow cap ∧ capOff cap + l < capBase then
            some (.slice (a.map (addTo · (l * size))) (h - l) (mkCap (capId cap) (capOff cap + l) (capLow cap - l)))
          else none
  | some (.array n e), .pointer (some a) =>
    if capBase ≤ n then none else
    (sizeOf T e).bind fun size =>
      (optBound mx n n).bind fun m => (if mx.isSome ∧ hi.isNone then none else optBound hi m n).bind fun h => (optBound lo h 0).map fun l =>
        .slice (some (if m = l then a else addTo a (l * size))) (h - l) (m - l)
  | _, _ => none

noncomputable def aindex (T : Tab) (t : TypeId) (x ix : Value) : Option Value :=
  match ix with
  | .int _ i =>
    match T.und t, x with
    | some (.array len e), .agg cs => if 0 ≤ i ∧ i < len then (sizeOf T e).bind fun n => part T e cs.toList (i.toNat * n) else none
    | some .string, .string b => if 0 ≤ i then (b.data.toList[i.toNat]?).map fun c => .int .u8 c.toNat else none
    | _, _ => none
  | _ => none

noncomputable def aindexAddr (T : Tab) (t : TypeId) (x ix : Value) : Option Value :=
  match ix with
  | .int _ i =>
    match T.und t, x with
    | some (.array len e), .pointer (some a) => (sizeOf T e).bind fun n => if 0 ≤ i ∧ i < len then some (.pointer (some (addTo a (i.toNat * n)))) else none
    | some (.slice e), .slice (some a) len _ => (sizeOf T e).bind fun n => if 0 ≤ i ∧ i < len then some (.pointer (some (addTo a (i.toNat * n)))) else none
    | _, _ => none
  | _ => none

noncomputable def afieldAddr (T : Tab) (t : TypeId) (x : Value) (field : Nat) : Option Value :=
  match T.und t, x with
  | some (.struct fs), .pointer (some a) =>
    match fs[field]? with
    | some f =>
      match sizeOf T f.type with
      | some (_ + 1) => some (.pointer (some (addTo a f.offset)))
      | _ => none
    | none => none
  | _, _ => none

noncomputable def afield (T : Tab) (t : TypeId) (x : Value) (field : Nat) : Option Value :=
  match T.und t, x with
  | some (.struct fs), .agg cs =>
    match fs[field]? with
    | some f => part T f.type cs.toList f.offset
    | none => none
  | _, _ => none

noncomputable def placesOf (T : Tab) (fs : List Field) : Option (List (Nat × Nat)) :=
  match fs with
  | [] => some []
  | f :: fs => (sizeOf T f.type).bind fun n => (placesOf T fs).map fun l => (f.offset, n) :: l

noncomputable def abuild (T : Tab) (t : TypeId) (parts : List (Nat × Value)) : Option Value :=
  match zeroOf T t, T.und t with
  | some zero, some (.struct fs) => (placesOf T fs.toList).bind fun places => (Instr.fill (places[·]?) zero.cells parts).map .agg
  | some zero, some (.array _ e) => (sizeOf T e).bind fun size => (Instr.fill (fun i => some (i * size, size)) zero.cells parts).map .agg
  | _, _ => none

noncomputable def abuildSlice (T : Tab) (s : AS) (t : TypeId) (len : Nat) (parts : List (Nat × Value)) : Option (Value × AS) :=
  match T.und t with
  | some (.slice e) =>
    (sizeOf T e).bind fun size => (zeroOf T e).bind fun zero =>
      if len * size > 16777216 ∨ len > 1048576 then none else
      (Instr.fill (fun i => some (i * size, size)) ((Array.range (len * size)).map fun i => zero.cells[i % zero.cells.size]!) parts).map fun cells =>
        (.slice (some ⟨s.next, 0, none⟩) len len, s.new (.cells cells.toList e none))
  | _ => none

noncomputable def checkKey (T : Tab) : Nat → TypeId → Value → Bool
  | 0, _, _ => false
  | d + 1, t, v =>
    match T.und t, v with
    | some (.struct fs), .agg cs => fs.toList.all fun f => if f.name = "_" then true else
        match part T f.type cs.toList f.offset with
        | some u => checkKey T d f.type u
        | none => false
    | some .bool, .bool _ => true
    | some (.int _), .int _ _ => true
    | some .string, .string _ => true
    | _, _ => false

inductive FK | b | i | s
noncomputable def fkOf : Option TypeDesc → Option FK
  | some .bool => some .b
  | some (.int _) => some .i
  | some .string => some .s
  | _ => none
/-- A struct whose fields are numbers, bools, texts, one cell each, none blank. -/
noncomputable def flatFields (T : Tab) : List Field → Nat → Option (List FK)
  | [], _ => some []
  | f :: fs, i => bif (f.name != "_") && Nat.beq f.offset i then (fkOf (T.und f.type)).bind fun k => (flatFields T fs (i + 1)).map (k :: ·) else none
noncomputable def flat (T : Tab) (t : TypeId) : Option (List FK) :=
  match T.und t with
  | some (.struct fs) => bif T.plain t then flatFields T fs.toList 0 else none
  | _ => none
/-- Cell by cell. -/
noncomputable def cellsEq : List FK → List Value → List Value → Option Bool
  | [], [], [] => some true
  | .i :: ks, .int k a :: xs, .int k' b :: ys => if k = k' then (if a = b then cellsEq ks xs ys else some false) else none
  | .b :: ks, .bool a :: xs, .bool b :: ys => if a = b then cellsEq ks xs ys else some false
  | .s :: ks, .string a :: xs, .string b :: ys => if a = b then cellsEq ks xs ys else some false
  | _, _, _ => none
noncomputable def keyEq (T : Tab) (s : AS) (t : TypeId) (x y : Value) : Option Bool :=
  match flat T t with
  | some ks => match x, y with
    | .agg ⟨xs⟩, .agg ⟨ys⟩ => cellsEq ks xs ys
    | _, _ => none
  | none => aeq T s 60 t x y

noncomputable def findAsk (T : Tab) (s : AS) (t : TypeId) (k : Value) : List MapEntry → Nat → Option (Option (Nat × Value))
  | [], _ => some none
  | e :: es, i =>
    match keyEq T s t k e.key with
    | some true => some (some (i, e.val))
    | some false => findAsk T s t k es (i + 1)
    | none => none

noncomputable def findKey (T : Tab) (s : AS) (t : TypeId) (k : Value) (es : List MapEntry) : Option (Option (Nat × Value)) :=
  match T.und t with
  | some d =>
    match Instr.findNow d k es 0 with
    | some r => some r
    | none => findAsk T s t k es 0
  | none => none

noncomputable def alookup (T : Tab) (s : AS) (t : TypeId) (x ix : Value) (ok : Bool) : Option Value :=
  match T.und t with
  | some (.map kt et) =>
    if checkKey T 60 kt ix ∧ ground ix then
      let es : Option (List MapEntry) := match x with
        | .map none => some []
        | .map (some r) => match s.heap.get r with | some (.map es _) => some es | _ => none
        | _ => none
      es.bind fun es => (findKey T s kt ix es).bind fun
        | some (_, v) => some (if ok then .tuple #[v, .bool true] else v)
        | none => (zeroOf T et).map fun v => if ok then .tuple #[v, .bool false] else v
    else none
  | _ => none

noncomputable def amapUpdate (T : Tab) (s : AS) (t : TypeId) (m k v : Value) : Option AS :=
  match T.und t, m with
  | some (.map kt _), .map (some r) =>
    if r < s.lim then none else
    if checkKey T 60 kt k ∧ ground k then
      match s.heap.get r with
      | some (.map es clock) => (findKey T s kt k es).bind fun
        | some (i, _) =>
          match es[i]? with
          | some e => if Instr.sameBits 10000 e.key k then some (s.put r (.map (es.set i { e with key := k, val := v }) clock)) else none
          | none => none
        | none => some (s.put r (.map (es ++ [{ key := k, val := v, born := clock }]) (clock + 1)))
      | _ => none
    else none
  | _, _ => none

noncomputable def anext (s : AS) (it : Value) : Option (Value × AS) :=
  match it with
  | .pointer (some ⟨r, 0, none⟩) =>
    if r < s.lim then none else
    match s.heap.get r with
    | some (.iter b pos) =>
      if pos < b.size then
        let (c, width) := Utf8.decode b pos
        some (.tuple #[.bool true, goInt pos, .int .i32 c], s.put r (.iter b (pos + width)))
      else some (.tuple #[.bool false], s)
    | _ => none
  | _ => none

/-- Has a type all the methods that an interface wants? -/
noncomputable def hasAll (want : List (String × TypeId)) (got : Array Method) : Bool :=
  want.all fun x => got.any fun m => m.name == x.1 && m.sig == x.2

noncomputable def atypeAssert (T : Tab) (x : Value) (asserted : TypeId) (ok : Bool) : Option Value :=
  let holds (v : Value) : Value := if ok then .tuple #[v, .bool true] else v
  let fails : Option Value := if ok then (zeroOf T asserted).map fun z => .tuple #[z, .bool false] else none
  match T.und asserted, x with
  | some _, .nilIface => fails
  | some (.interface want), .iface t _ =>
    match T.info t with
    | some i => if hasAll want.toList i.methods then some (holds x) else fails
    | none => none
  | some _, .iface t v => if t = asserted then some (holds v) else fails
  | _, _ => none

noncomputable def amakeSlice (T : Tab) (s : AS) (t : TypeId) (len cap : Value) : Option (Value × AS) :=
  match T.und t, len, cap with
  | some (.slice e), .int _ l, .int _ c =>
    (sizeOf T e).bind fun size => (zeroOf T e).bind fun zero => (T.info e).bind fun i =>
      if 0 ≤ l ∧ l ≤ c ∧ c ≤ 65536 ∧ i.bytes ≤ 65536 then
        some (.slice (some ⟨s.next, 0, none⟩) l.toNat c.toNat, s.new (.cells ((Array.range (c.toNat * size)).map fun i => zero.cells[i % zero.cells.size]!).toList e none))
      else none
  | _, _, _ => none

noncomputable def firstCells (s : AS) (size n : Nat) : Value → Option (List Value)
  | .slice (some a) _ _ => cellsAt s a (n * size)
  | .slice none _ _ => some []
  | .string b => some ((b.data.toList.take n).map fun c => .int .u8 c.toNat)
  | _ => none

noncomputable def lenOf : Value → Option Nat
  | .slice _ n _ => some n
  | .string b => some b.size
  | _ => none

/-- A new block that may grow: its capacity is no known number. The number's name comes first. -/
noncomputable def AS.grown (s : AS) (c : List Value) (e : TypeId) (lb : Nat) : AS := AS.new { s with next := s.next + 1 } (.cells c e (some (mkCap s.next 0 lb)))
noncomputable def AS.grownSlice (s : AS) (len lb : Nat) : Value := .slice (some ⟨s.next + 1, 0, none⟩) len (mkCap s.next 0 lb)

/-- append: the source's elements are put behind. A slice whose capacity is not known is taken: its block is known no more. -/
noncomputable def aappend (T : Tab) (s : AS) (ts : List TypeId) (base : Option Addr) (sLen sCap : Nat) (x : Value) : Option (Value × AS) :=
  match ts with
  | t :: tx :: _ =>
    match T.und t, T.und tx with
    | some (.slice e), some d =>
      if (d matches .int _) then none else
      (sizeOf T e).bind fun size => (T.info e).bind fun i => (zeroOf T e).bind fun z => (lenOf x).bind fun n =>
        if n = 0 then (if sLen ≤ (if sCap < capBase then sCap else capLow sCap) then some (.slice base sLen sCap, s) else none)
        else
        (firstCells s size n x).bind fun new =>
          if sLen + n > 1048576 ∨ size = 0 ∨ i.bytes > 65536 ∨ new.length ≠ n * size then none else
          if sCap < capBase then
            if sLen + n ≤ sCap then
              match base with
              | some a => (storeAt s ⟨a.block, a.off + sLen * size, a.spot⟩ new).map fun s => (.slice (some a) (sLen + n) sCap, s)
              | none => none
            else
              (firstCells s size sLen (.slice base sLen sCap)).bind fun old => if old.length = sLen * size then some (s.grownSlice (sLen + n) (sLen + n), s.grown (old ++ new) e (sLen + n)) else none
          else
            match base with
            | some ⟨b, 0, none⟩ =>
              if b < s.lim then none else
              match s.heap.get b with
              | some (.cells c e' (some g)) =>
                if g = sCap ∧ c.length = sLen * size ∧ e' = e ∧ new.all single = true then some (s.grownSlice (sLen + n) (sLen + n), (s.del b).grown (c ++ new) e (sLen + n)) else none
              | _ => none
            | _ => none
    | _, _ => none
  | _ => none

noncomputable def acopy (T : Tab) (s : AS) (ts : List TypeId) (base : Option Addr) (dLen : Nat) (src : Value) : Option (Value × AS) :=
  match ts with
  | t :: _ =>
    match T.und t with
    | some (.slice e) =>
      (sizeOf T e).bind fun size => (lenOf src).bind fun m =>
        let n := Nat.min m dLen
        (firstCells s size n src).bind fun cells =>
          match base with
          | some a => (storeAt s a cells).map fun s => (goInt n, s)
          | none => some (goInt n, s)
    | _ => none
  | _ => none

noncomputable def alen (T : Tab) (s : AS) (ts : List TypeId) (x : Value) : Option Value :=
  match ts with
  | t :: _ =>
    match T.und t, x with
    | some .string, .string b => some (goInt b.size)
    | some (.array n _), _ => some (goInt n)
    | some (.slice _), .slice _ n _ => some (goInt n)
    | some (.map _ _), .map none => some (goInt 0)
    | some (.map _ _), .map (some r) => match s.heap.get r with
      | some (.map es _) => some (goInt es.length)
      | _ => none
    | _, _ => none
  | _ => none

noncomputable def minmaxFrom (isMax : Bool) (k : IntKind) : Int → List Value → Option Value
  | x, [] => some (.int k x)
  | x, .int _ y :: rest => minmaxFrom isMax k (if (if isMax then y > x else y < x) then y else x) rest
  | _, _ => none
noncomputable def minmax (isMax : Bool) : List Value → Option Value
  | .int k x :: rest => minmaxFrom isMax k x rest
  | _ => none

noncomputable def abuiltin (T : Tab) (s : AS) (b : Builtin) (ts : List TypeId) (args : List Value) : Option (Value × AS) :=
  match b, args with
  | .append, [.slice base l c, x] => aappend T s ts base l c x
  | .copy, [.slice base l _, x] => acopy T s ts base l x
  | .len, [x] => (alen T s ts x).map fun v => (v, s)
  | .cap, [.slice _ _ c] => match ts with
    | t :: _ => match T.und t with
      | some (.slice _) => if c < capBase then some (goInt c, s) else none
      | _ => none
    | _ => none
  | .unsafeSliceData, [.slice (some a) _ c] => if 0 < (if c < capBase then c else capLow c) then some (.pointer (some a), s) else none
  | .unsafeString, [.pointer (some a), .int _ n] => match ts with
    | t :: _ => match T.und t with
      | some (.pointer u) => match T.und u, sizeOf T u with
        | some (.int .u8), some 1 =>
          if 0 ≤ n ∧ n ≤ 1048576 then
            if n = 0 then some (.string .empty, s)
            else if a.off = 0 ∧ s.lim ≤ a.block ∧ a.spot = none then
              match s.heap.get a.block with
              | some (.cells c e _) => if e = u ∧ n.toNat ≤ c.length then (bytesOf (c.take n.toNat)).map fun l => (.string ⟨l.toArray⟩, s.del a.block) else none
              | _ => none
            else none
          else none
        | _, _ => none
      | _ => none
    | _ => none
  | .max, l => (minmax true l).map fun v => (v, s)
  | .min, l => (minmax false l).map fun v => (v, s)
  | _, _ => none

/-- A function that a value of a type has under a name. -/
noncomputable def findMethod (T : Tab) (t : TypeId) (v : Value) (name : String) : Option (FuncId × Value) :=
  match T.info t, T.und t with
  | some i, some d =>
    match i.methods.find? (·.name == name) with
    | some m =>
      if m.path.size = 0 then
        match m.func, d with
        | some (f, true), .pointer _ => some (f, v)
        | some (_, false), .pointer _ => none
        | some (f, false), _ => some (f, v)
        | _, _ => none
      else match m.path.toList, v, m.func with
        | [st], .agg ⟨cs⟩, some (f, true) =>
          bif st.deref then none else
          match T.und st.struct with
          | some (.struct fields) => match fields[st.index]? with
            | some fl => (part T fl.type cs fl.offset).bind fun x => match T.und fl.type with
              | some (.pointer _) => some (f, x)
              | _ => none
            | none => none
          | _ => none
        | _, _, _ => none
    | none => none
  | _, _ => none

structure Rec where
  exec : Option Nat → Code → AAct → AS → Option (Exit × AAct × AS)
  call : Nat → List Value → AS → Option (Value × AS)

noncomputable def byteAt (b : List UInt8) (c : UInt8) : Nat → Int
  | i => match b with
    | [] => -1
    | x :: xs => if x = c then i else byteAt xs c (i + 1)

/-- A type's descriptor. -/
noncomputable def hv (T : Tab) (t : TypeId) : Value := .pointer (some ⟨T.nglob, t, none⟩)
noncomputable def hd (T : Tab) : Value → Option TypeId
  | .pointer (some ⟨g, t, none⟩) => bif Nat.beq g T.nglob then some t else none
  | _ => none
noncomputable def look {α : Type} (l : List (Nat × α)) (k : Nat) : Option α := (l.find? fun p => Nat.beq p.1 k).map (·.2)
noncomputable def runExt (T : Tab) (x : Ext) (args : List Value) (s : AS) : Option (Value × AS) :=
  match x, args with
  | .nothing, [] => some (.tuple #[], s)
  | .noEscape, [v] => some (v, s)
  | .makeNoZero e, [.int .i64 n] =>
    if 0 ≤ n ∧ n ≤ 1048576 then
      some (s.grownSlice n.toNat n.toNat, s.grown [] e n.toNat)
    else none
  | .indexByteString, [.string b, .int .u8 c] => some (.int .i64 (byteAt b.data.toList (UInt8.ofNat c.toNat) 0), s)
  | .countString, [.string b, .int .u8 c] => some (.int .i64 ((b.data.toList.filter (· == UInt8.ofNat c.toNat)).length : Nat), s)
  | .typeOf t rt, [.iface t' _] => if t' = t then some (.iface rt (.agg #[.pointer (some ⟨T.nglob, t, none⟩)]), s) else none
  | .comparable t b, [.agg ⟨[.pointer (some ⟨g, t', none⟩)]⟩] => if t' = t ∧ g = T.nglob then some (.bool b, s) else none
  | .marked, [.pointer (some _)] => some (.tuple #[], s)
  | .atomicLoad k, [.pointer (some p)] => match cellsAt s p 1 with
    | some [.int k' n] => if k' = k then some (.int k n, s) else none
    | _ => none
  | .atomicAdd k, [.pointer (some p), .int k2 d] => match cellsAt s p 1 with
    | some [.int k' n] => if k' = k ∧ k2 = k then (storeAt s p [.int k (k.wrap (n + d))]).map fun s => (.int k (k.wrap (n + d)), s) else none
    | _ => none
  | .atomicStore, [.pointer (some p), .int k y] => match cellsAt s p 1 with
    | some [_] => (storeAt s p [.int k y]).map fun s => (.tuple #[], s)
    | _ => none
  | .atomicCas k, [.pointer (some p), .int k2 o, .int k3 v] => match cellsAt s p 1 with
    | some [.int k' n] => if k' = k ∧ k2 = k ∧ k3 = k then (storeAt s p [.int k v]).bind fun s2 => if n = o then some (.bool true, s2) else some (.bool false, s) else none
    | _ => none
  | .valueOf l, [.iface t v] => (look l t).map fun f => (.agg #[hv T t, .pointer (some ⟨s.next, 0, none⟩), .int .u64 f], s.new (.cells v.cells.toList t none))
  | .rvType rt l, [.agg ⟨[h, .pointer (some _), .int .u64 f]⟩] => (hd T h).bind fun t => (look l t).bind fun f' => if f = f' then some (.iface rt (.agg #[hv T t]), s) else none
  | .rvIsNil l, [.agg ⟨[h, .pointer (some a), .int .u64 f]⟩] => (hd T h).bind fun t => (look l t).bind fun f' => if f = f' then
      (match loadVar T s t a with | some (.pointer (some _)) => some (.bool false, s) | _ => none) else none
  | .rvElem l, [.agg ⟨[h, .pointer (some a), .int .u64 f]⟩] => (hd T h).bind fun t => (look l t).bind fun x => if f = x.1 then
      (match loadVar T s t a with | some (.pointer (some p)) => some (.agg #[hv T x.2.1, .pointer (some p), .int .u64 x.2.2], s) | _ => none) else none
  | .rvSet l, [.agg ⟨[h, .pointer (some a), .int .u64 f]⟩, .agg ⟨[h2, .pointer (some b), .int .u64 f2]⟩] => (hd T h).bind fun e => (hd T h2).bind fun e2 => (look l e).bind fun x =>
      if f = x.1 ∧ f2 = x.2 ∧ e2 = e then (loadVar T s e b).bind fun v => (storeVar T s e a v).map fun s => (.tuple #[], s) else none
  | .kinds l, [h] => (hd T h).bind fun t => (look l t).map fun k => (.int .u8 k, s)
  | .rtElem rt l, [.agg ⟨[h]⟩] => (hd T h).bind fun t => (look l t).map fun e => (.iface rt (.agg #[hv T e]), s)
  | .rtRel l, [.agg ⟨[h]⟩, .iface _ (.agg ⟨[h2]⟩)] => (hd T h).bind fun t => (hd T h2).bind fun u => (look l t).bind fun x => if u = x.1 then some (.bool x.2, s) else none
  | .typeOfs rt l, [.iface t _] => (look l t).map fun _ => (.iface rt (.agg #[hv T t]), s)
  | _, _ => none

/-- A call of a function by its number. -/
noncomputable def callF (T : Tab) (R : Rec) (f : Nat) (args : List Value) (s : AS) : Option (Value × AS) :=
  match T.fn f with
  | none => none
  | some fn =>
    match fn.body with
    | none => (T.ext f).bind fun x => runExt T x args s
    | some _ =>
      match T.sum f with
      | some g => g args s
      | none => R.call f args s

noncomputable def setAll (ps : List Tmp) (vs : List Value) (tmps : List Value) : List Value :=
  (ps.zip vs).foldl (fun ts (t, v) => ts.set t v) tmps

/-- How a round is left: on with the loop, or a jump. -/
noncomputable def jumpOf : Exit → Option (Option Code)
  | .normal => some none
  | .ret => some (some .ret)
  | .exit id => some (some (.exit id))
  | .goto t => some (some (.goto t))
  | _ => none

/-- A round of a loop over a function. -/
noncomputable def around (R : Rec) (l : Nat) (args : List Value) (s : AS) : Option (Value × AS) :=
  if l < s.lim then none else
  match s.heap.get l with
  | some (.loop .ready pending tmps params assign body defers) =>
    if args.length = params.size then
      match R.exec (some l) assign ⟨setAll params.toList args tmps, []⟩ s with
      | some (.normal, a, s) =>
        match s.heap.get l with
        | some (.loop .ready pending1 tmps1 params1 assign1 body1 defers1) =>
          match R.exec (some l) body a (s.put l (.loop .busy pending1 tmps1 params1 assign1 body1 defers1)) with
          | some (e, _, s) =>
            match jumpOf e, s.heap.get l with
            | some jump, some (.loop _ _ tmps params assign body defers) =>
              some (.bool jump.isNone, s.put l (.loop (if jump.isNone then .ready else .done) jump tmps params assign body defers))
            | _, _ => none
          | none => none
        | _ => none
      | _ => none
    else none
  | _ => none

noncomputable def callV (T : Tab) (R : Rec) (f : Value) (args : List Value) (s : AS) : Option (Value × AS) :=
  match f with
  | .func (.func g) first captured => callF T R g (first.toList ++ args ++ captured.toList) s
  | .func (.yield l) first _ => around R l (first.toList ++ args) s
  | .func (.method name) first _ =>
    match first.toList ++ args with
    | .iface t v :: rest => (findMethod T t v name).bind fun (g, r) => callF T R g (r :: rest) s
    | _ => none
  | _ => none

noncomputable def acall (T : Tab) (R : Rec) (ev : Operand → Value) (c : Call) (s : AS) : Option (Value × AS) :=
  let args := c.args.toList.map ev
  match c.callee with
  | .builtin b => abuiltin T s b c.argTypes.toList args
  | .invoke recv name =>
    match ev recv with
    | .iface t v => (findMethod T t v name).bind fun (g, r) => callF T R g (r :: args) s
    | _ => none
  | .value f => callV T R (ev f) args s

mutual
/-- no address within, no capacity that is not known -/
noncomputable def closed : Value → Bool
  | .bool _ | .int _ _ | .string _ | .pointer none | .map none | .nilFunc | .nilIface => true
  | .slice none _ c => Nat.blt c capBase
  | .func (.func _) ⟨a⟩ ⟨b⟩ => closeds a && closeds b
  | .iface _ v => closed v
  | .agg ⟨a⟩ | .tuple ⟨a⟩ => closeds a
  | _ => false
noncomputable def closeds : List Value → Bool
  | [] => true
  | v :: vs => closed v && closeds vs
end

noncomputable def opndClosed (T : Tab) : Operand → Bool
  | .const v => closed v
  | .global g => Nat.ble g T.nglob
  | _ => true

noncomputable def opClosed (T : Tab) (op : Op) : Bool := op.operands.toList.all (opndClosed T)

/-- One operation, its operands let through. -/
noncomputable def aop0 (T : Tab) (R : Rec) (op : Op) (ev : Operand → Value) (s : AS) : Option (Value × AS) :=
  match op with
  | .move x | .assign x => some (ev x, s)
  | .pick c a b => match ev c with
    | .bool t => some (if t then ev a else ev b, s)
    | _ => none
  | .alloc e => (zeroOf T e).map fun z => (.pointer (some ⟨s.next, 0, none⟩), s.new (.cells z.cells.toList e none))
  | .box e x => some (.pointer (some ⟨s.next, 0, none⟩), s.new (.cells (ev x).cells.toList e none))
  | .build t parts => (abuild T t (parts.toList.map fun (i, x) => (i, ev x))).map fun v => (v, s)
  | .buildSlice t len parts => abuildSlice T s t len (parts.toList.map fun (i, x) => (i, ev x))
  | .load t a => match ev a with
    | .pointer (some p) => (loadVar T s t p).map fun v => (v, s)
    | _ => none
  | .store t a x => match ev a with
    | .pointer (some p) => (storeVar T s t p (ev x)).map fun s => (undef, s)
    | _ => none
  | .nilCheck x => match ev x with
    | .pointer none | .nilIface | .nilFunc => none
    | .func (.method _) _ _ => none
    | v => some (v, s)
  | .binOp op t x y _ => (abin T s op t x y (ev x) (ev y)).map fun v => (v, s)
  | .unOp op _ x => (aun op (ev x)).map fun v => (v, s)
  | .convert src dst x => aconv T s src dst (ev x)
  | .makeInterface t x => match T.und t with
    | some (.interface _) => none
    | some _ => some (.iface t (ev x), s)
    | none => none
  | .makeFunc fn first captured => match fn with
    | .func _ | .method _ => some (.func fn (first.map ev) (captured.map ev), s)
    | _ => none
  | .makeMap t r => match r.map ev, T.und t with
    | none, _ => some (.map (some s.next), s.new (.map [] 0))
    | some (.int _ _), some (.map _ _) => some (.map (some s.next), s.new (.map [] 0))
    | _, _ => none
  | .makeSlice t l c => amakeSlice T s t (ev l) (ev c)
  | .slice t x lo hi mx => (aslice T t (ev x) (lo.map ev) (hi.map ev) (mx.map ev)).map fun v => (v, s)
  | .fieldAddr t x f => (afieldAddr T t (ev x) f).map fun v => (v, s)
  | .field t x f => (afield T t (ev x) f).map fun v => (v, s)
  | .indexAddr t x ix => (aindexAddr T t (ev x) (ev ix)).map fun v => (v, s)
  | .index t x ix => (aindex T t (ev x) (ev ix)).map fun v => (v, s)
  | .lookup t x ix ok => (alookup T s t (ev x) (ev ix) ok).map fun v => (v, s)
  | .mapUpdate t m k x | .insert t m k x => (amapUpdate T s t (ev m) (ev k) (ev x)).map fun s => (undef, s)
  | .range t x => match T.und t, ev x with
    | some .string, .string b => some (.pointer (some ⟨s.next, 0, none⟩), s.new (.iter b 0))
    | _, _ => none
  | .next it true => anext s (ev it)
  | .typeAssert x _ asserted ok => (atypeAssert T (ev x) asserted ok).map fun v => (v, s)
  | .extract t i => match ev t with
    | .tuple vs => (vs.toList[i]?).map fun v => (v, s)
    | _ => none
  | .call c => acall T R ev c s
  | _ => none

noncomputable def aop (T : Tab) (R : Rec) (op : Op) (ev : Operand → Value) (s : AS) : Option (Value × AS) :=
  bif opClosed T op then aop0 T R op ev s else none

noncomputable def yieldedA (ops : Array Oper) (tmps : List Value) (j : Nat) : Option Bool :=
  match ((ops[j]?).bind (·.dst)).bind (tmps[·]?) with
  | some (.bool b) => some b
  | _ => none

noncomputable def wantedA (ops : Array Oper) (o : Oper) (a : AAct) : Bool :=
  match o.guard with
  | none => true
  | some (j, want) => yieldedA ops a.tmps j == some want

noncomputable def adefer (R : Option Nat) (ev : Operand → Value) (c : Call) : Option Deferred :=
  match R, c.callee with
  | none, .value f => match ev f with
    | .func (.func g) first captured => some { target := .fn (.func g) captured, args := first ++ c.args.map ev }
    | _ => none
  | _, _ => none

/-- The operations of a region, in their order. -/
noncomputable def execOps (T : Tab) (R : Rec) (rd : Option Nat) (ops : Array Oper) : List Oper → AAct → AS → Option (AAct × AS)
  | [], a, s => some (a, s)
  | o :: rest, a, s =>
    bif wantedA ops o a then
      match o.op with
      | .defer c => bif !opClosed T o.op then none else (adefer rd a.eval c).bind fun d => execOps T R rd ops rest (AAct.put { a with defers := d :: a.defers } o.dst undef) s
      | op => match aop T R op a.eval s with
        | some (v, s) => execOps T R rd ops rest (a.put o.dst v) s
        | none => none
    else execOps T R rd ops rest (a.put o.dst undef) s

/-- What is run of a region whose order is drawn: each operation's activation and state ahead of it, the value. -/
noncomputable def trace (T : Tab) (R : Rec) (ops : Array Oper) : List Oper → AAct → AS → Option (List (AAct × AS × Value) × AAct × AS)
  | [], a, s => some ([], a, s)
  | o :: rest, a, s =>
    bif wantedA ops o a then
      match aop T R o.op a.eval s with
      | some (v, s') => bif Nat.ble s.next s'.next && Nat.beq s.lim s'.lim then (trace T R ops rest (a.put o.dst v) s').map fun (l, r) => ((a, s, v) :: l, r) else none
      | none => none
    else (trace T R ops rest (a.put o.dst undef) s).map fun (l, r) => ((a, s, undef) :: l, r)

mutual
/-- Are two values one? -/
noncomputable def veq : Value → Value → Bool
  | .bool a, .bool b => a == b
  | .int j a, .int k b => decide (j = k) && decide (a = b)
  | .string a, .string b => decide (a = b)
  | .pointer a, .pointer b => decide (a = b)
  | .slice a l c, .slice b m d => decide (a = b) && decide (l = m) && decide (c = d)
  | .map a, .map b => decide (a = b)
  | .func f ⟨a⟩ ⟨b⟩, .func g ⟨c⟩ ⟨d⟩ => decide (f = g) && veqs a c && veqs b d
  | .nilFunc, .nilFunc => true
  | .iface t v, .iface u w => decide (t = u) && veq v w
  | .nilIface, .nilIface => true
  | .agg ⟨a⟩, .agg ⟨b⟩ => veqs a b
  | .tuple ⟨a⟩, .tuple ⟨b⟩ => veqs a b
  | _, _ => false
noncomputable def veqs : List Value → List Value → Bool
  | [], [] => true
  | x :: xs, y :: ys => veq x y && veqs xs ys
  | _, _ => false
end

inductive Kind | pure | read | alloc | impure | bad
  deriving DecidableEq

noncomputable def kindOf (T : Tab) : Op → Kind
  | .move _ | .assign _ | .pick _ _ _ | .build _ _ | .nilCheck _ | .unOp _ _ _ | .makeInterface _ _ | .makeFunc _ _ _ | .fieldAddr _ _ _ | .field _ _ _ | .indexAddr _ _ _ | .index _ _ _ | .extract _ _ | .typeAssert _ _ _ _ | .slice _ _ _ _ _ => .pure
  | .binOp _ _ _ _ _ | .load _ _ | .lookup _ _ _ _ => .read
  | .alloc _ => .alloc
  | .convert _ dst _ => match T.und dst with
    | some (.int _) | some .string => .pure
    | some .unsafePointer | some (.pointer _) => .read
    | _ => .impure
  | .call { callee := .builtin b, .. } => match b with
    | .len => .read
    | .cap | .max | .min => .pure
    | .append | .copy => .impure
    | .unsafeSliceData => .pure
    | .unsafeString => .impure
    | _ => .bad
  | .call _ | .store _ _ _ | .box _ _ | .buildSlice _ _ _ | .mapUpdate _ _ _ _ | .insert _ _ _ _ | .makeMap _ _ | .makeSlice _ _ _ | .range _ _ | .next _ _ => .impure
  | _ => .bad

noncomputable def bit (b : List Nat) (j i : Nat) : Bool := (b.getD j 0).testBit i

/-- The temporaries that an operation looks at. -/
noncomputable def looks (ops : Array Oper) (o : Oper) : List Tmp :=
  (o.op.operands.toList.filterMap fun | .tmp t => some t | _ => none) ++
  (match o.guard with
   | some (g, _) => ((ops[g]?).bind (·.dst)).toList
   | none => [])

noncomputable def force {α : Type} (n : Nat) (k : Nat → α) : α := match n with
  | 0 => k 0
  | n + 1 => k (n + 1)
noncomputable def maskA (acc : List Nat) (o : Oper) : Nat := o.after.toList.foldl (fun s e => bif Region.binds .any e then Nat.lor (Nat.lor s (2 ^ e.on)) (acc.getD e.on 0) else s) 0
/-- Whom each operation waits for, the others' own waiting taken in. -/
noncomputable def beforeA : List Oper → List Nat → List Nat
  | [], acc => acc
  | o :: os, acc => force (maskA acc o) fun n => beforeA os (acc ++ [n])

/-- May a region's order be left open? -/
noncomputable def regionOk (T : Tab) (ops : Array Oper) : Bool :=
  let b := beforeA ops.toList []
  let ix := ops.toList.zipIdx
  ix.all fun (o, i) =>
    (kindOf T o.op != .bad) &&
    (o.after.toList.all fun e => !Region.binds .any e || decide (e.on < i)) &&
    (match o.guard with
     | some (g, _) => bit b i g
     | none => true) &&
    ix.all fun (p, j) =>
      (match p.dst with
       | some d => if (looks ops o).contains d || o.dst == some d then decide (i = j) || bit b (max i j) (min i j) else true
       | none => true) &&
      (if i < j ∧ kindOf T p.op = .impure ∧ (kindOf T o.op = .impure ∨ kindOf T o.op = .alloc) then bit b j i else true)

noncomputable def steadyAt (T : Tab) (R : Rec) (a : AAct) (o : Oper) (v : Value) (s : AS) : Bool :=
  match aop T R o.op a.eval s with
  | some (u, _) => veq u v
  | none => false
noncomputable def steadyGo (at_ : AS → Bool) (b : List Nat) (i : Nat) : List (Nat × AS) → AS → Bool
  | [], s => at_ s
  | (m, s') :: ms, s =>
    bif bit b i m then steadyGo at_ b i ms s'            -- it waits for m
    else at_ s && (bif bit b m i then true else steadyGo at_ b i ms s')
/-- Does an operation that reads yield the same at whatever time it comes up? 'ms': the numbers of what acts, with the states behind them. -/
noncomputable def steady (T : Tab) (R : Rec) (b : List Nat) (a : AAct) (o : Oper) (i : Nat) (v : Value) (s0 : AS) (ms : List (Nat × AS)) : Bool :=
  steadyGo (steadyAt T R a o v) b i ms s0

noncomputable def execDraw (T : Tab) (R : Rec) (ops : Array Oper) (a : AAct) (s : AS) : Option (AAct × AS) :=
  bif regionOk T ops then
    match trace T R ops ops.toList a s with
    | some (tr, a', s') =>
      let b := beforeA ops.toList []
      let ix := ops.toList.zipIdx
      let after := (tr.drop 1).map (fun x => x.2.1) ++ [s']
      let ms := ((ix.zip after).filter fun ((o, _), _) => kindOf T o.op = .impure).map fun ((_, i), s) => (i, s)
      bif ops.toList.all (fun o => match kindOf T o.op with | .pure | .read => true | _ => false) || (ix.zip tr).all (fun ((o, i), (ai, _, v)) => if kindOf T o.op = .read ∧ wantedA ops o ai then steady T R b ai o i v s ms else true) then some (a', s') else none
    | none => none
  else none

noncomputable def resultsA (T : Tab) (s : AS) (tmps : List Value) : List ResultVar → Option (List Value)
  | [] => some []
  | .tmp t :: rs => (resultsA T s tmps rs).map fun l => tmps.getD t undef :: l
  | .cell a t :: rs => match tmps.getD a undef with
    | .pointer (some p) => (loadVar T s t p).bind fun v => (resultsA T s tmps rs).map fun l => v :: l
    | _ => none

/-- What a deferred call does when the function leaves. -/
noncomputable def leave (T : Tab) (R : Rec) : List Deferred → AS → Option AS
  | [], s => some s
  | d :: ds, s =>
    match d.target with
    | .collected r =>
      if r < s.lim then none else
      match s.heap.get r with
      | some (.defs true) => leave T R ds (s.put r (.defs false))
      | _ => none
    | .fn (.func g) captured =>
      match T.fn g with
      | some fn => match fn.body with
        | some c => match R.exec none c ⟨d.args.toList ++ captured.toList ++ List.replicate (fn.ntmps - (d.args.toList ++ captured.toList).length) undef, []⟩ s with
          | some (.normal, ⟨tmps, []⟩, s) | some (.ret, ⟨tmps, []⟩, s) => (resultsA T s tmps fn.results.toList).bind fun _ => leave T R ds s
          | _ => none
        | none => none
      | none => none
    | _ => none

noncomputable def oneOf : List Value → Value
  | [v] => v
  | l => .tuple l.toArray

/-- Jumps within a scope. -/
noncomputable def scopeGo (ex : Code → AAct → AS → Option (Exit × AAct × AS)) (c : Code) : Nat → Option (Exit × AAct × AS) → Option (Exit × AAct × AS)
  | 0, _ => none
  | d + 1, r => match r with
    | some (.goto l, a, s) => match findLabel c l with
      | some rest => scopeGo ex c d (ex rest a s)
      | none => some (.goto l, a, s)
    | r => r

noncomputable def step (T : Tab) (R : Rec) : Rec where
  exec rd c a s := match c with
    | .skip => some (.normal, a, s)
    | .label _ => some (.normal, a, s)
    | .region _ ops draw =>
      bif draw then (execDraw T R ops a s).map fun (a, s) => (.normal, a, s)
      else (execOps T R rd ops ops.toList a s).map fun (a, s) => (.normal, a, s)
    | .seq x y => match R.exec rd x a s with
      | some (.normal, a, s) => R.exec rd y a s
      | r => r
    | .cond c x y => match a.eval c with
      | .bool true => R.exec rd x a s
      | .bool false => R.exec rd y a s
      | _ => none
    | .block id c => match R.exec rd c a s with
      | some (.exit id', a, s) => if id' = id then some (.normal, a, s) else some (.exit id', a, s)
      | r => r
    | .loop c => match R.exec rd c a s with
      | some (.normal, a, s) => R.exec rd (.loop c) a s
      | r => r
    | .exit id => some (.exit id, a, s)
    | .goto l => some (.goto l, a, s)
    | .ret => some (.ret, a, s)
    | .scope c => scopeGo (R.exec rd) c 4096 (R.exec rd c a s)
    | .rangeFunc f ps assign body =>
      let r? : Option (Nat × List Deferred × AS) := match rd with
        | none => some (s.next, [{ target := .collected s.next, args := #[] }], s.new (.defs true))
        | some l => match s.heap.get l with
          | some (.loop _ _ _ _ _ _ d) => some (d, [], s)
          | _ => none
      match r? with
      | some (r, mark, s1) =>
        match (bif opndClosed T f then a.eval f else .nilFunc) with
        | .func (.func g) first captured =>
          bif !((T.fn g).any fun fn => fn.body.isSome) then none else
          let l := s1.next
          match callF T R g (first.toList ++ [.func (.yield l) #[] #[]] ++ captured.toList) (s1.new (.loop .ready none a.tmps ps assign body r)) with
          | some (_, s2) => if l < s2.lim then none else match s2.heap.get l with
            | some (.loop st pending tmps ps assign body r) =>
              if st = .busy then none else
              let s3 := s2.put l (.loop .exhausted pending tmps ps assign body r)
              let a' : AAct := { a with defers := mark ++ a.defers }
              match pending with
              | none => some (.normal, a', s3)
              | some c => R.exec rd c a' s3
            | _ => none
          | none => none
        | _ => none
      | none => none
    | _ => none
  call f args s := match T.fn f with
    | some fn => match fn.body with
      | some c => match R.exec none c ⟨args ++ List.replicate (fn.ntmps - args.length) undef, []⟩ s with
        | some (.normal, a, s) | some (.ret, a, s) =>
          (leave T R a.defers s).bind fun s => (resultsA T s a.tmps fn.results.toList).map fun l => (oneOf l, s)
        | _ => none
      | none => none
    | none => none

noncomputable def it (T : Tab) (n : Nat) : Rec := Nat.rec (motive := fun _ => Rec) { exec := fun _ _ _ _ => none, call := fun _ _ _ => none } (fun _ R => step T R) n

theorem setN_eq (l : List Value) (i : Nat) (v : Value) : setN l i v = l.set i v := by
  induction l generalizing i with
  | nil => rfl
  | cons x xs ih =>
    cases i with
    | zero => rfl
    | succ i => show x :: setN xs (i + 1 - 1) v = x :: xs.set i v; rw [Nat.add_sub_cancel, ih]
theorem getN_eq (l : List Value) (i : Nat) : getN l i = l.getD i undef := by
  induction l generalizing i with
  | nil => rfl
  | cons x xs ih =>
    cases i with
    | zero => rfl
    | succ i => show getN xs (i + 1 - 1) = _; rw [Nat.add_sub_cancel, ih]; rfl

/-! ## Trees -/
theorem Tr.get_nil {α : Type} (k : Nat) : (Tr.nil : Tr α).get k = none := rfl
theorem Tr.get_node {α : Type} (l : Tr α) (v : Option α) (r : Tr α) (k : Nat) :
    (Tr.node l v r).get k = if k = 0 then v else if k % 2 = 1 then l.get (k / 2) else r.get (k / 2 - 1) := by
  show (bif Nat.beq k 0 then v else bif Nat.beq (Nat.mod k 2) 1 then l.get (Nat.div k 2) else r.get (Nat.sub (Nat.div k 2) 1)) = _
  by_cases h : k = 0
  · subst h; rfl
  · have h1 : Nat.beq k 0 = false := by rw [Bool.eq_false_iff]; intro h2; exact h (Nat.eq_of_beq_eq_true h2)
    rw [h1, if_neg h]
    by_cases hm : k % 2 = 1
    · have h2 : Nat.beq (Nat.mod k 2) 1 = true := by show Nat.beq (k % 2) 1 = true; rw [hm]; rfl
      rw [h2, if_pos hm]; rfl
    · have h2 : Nat.beq (Nat.mod k 2) 1 = false := by rw [Bool.eq_false_iff]; intro h3; exact hm (Nat.eq_of_beq_eq_true h3)
      rw [h2, if_neg hm]; rfl
theorem Tr.set_node {α : Type} (d : Nat) (l : Tr α) (v : Option α) (r : Tr α) (k : Nat) (o : Option α) :
    Tr.set (d + 1) (.node l v r) k o = if k = 0 then .node l o r else if k % 2 = 1 then .node (Tr.set d l (k / 2) o) v r else .node l v (Tr.set d r (k / 2 - 1) o) := by
  show (bif Nat.beq k 0 then Tr.node l o r else bif Nat.beq (Nat.mod k 2) 1 then .node (Tr.set d l (Nat.div k 2) o) v r else .node l v (Tr.set d r (Nat.sub (Nat.div k 2) 1) o)) = _
  by_cases h : k = 0
  · subst h; rfl
  · have h1 : Nat.beq k 0 = false := by rw [Bool.eq_false_iff]; intro h2; exact h (Nat.eq_of_beq_eq_true h2)
    rw [h1, if_neg h]
    by_cases hm : k % 2 = 1
    · have h2 : Nat.beq (Nat.mod k 2) 1 = true := by show Nat.beq (k % 2) 1 = true; rw [hm]; rfl
      rw [h2, if_pos hm]; rfl
    · have h2 : Nat.beq (Nat.mod k 2) 1 = false := by rw [Bool.eq_false_iff]; intro h3; exact hm (Nat.eq_of_beq_eq_true h3)
      rw [h2, if_neg hm]; rfl

/-- What a tree gives behind a store: the new, or the old; it may have forgotten. -/
theorem Tr.get_set {α : Type} (d : Nat) (t : Tr α) (k : Nat) (o : Option α) (k' : Nat) (x : α) (h : (Tr.set d t k o).get k' = some x) :
    (k' = k ∧ o = some x) ∨ (k' ≠ k ∧ t.get k' = some x) := by
  induction d generalizing t k k' with
  | zero => exact absurd (show (none : Option α) = some x from h) (by simp)
  | succ d ih =>
    have key : ∀ l v r, (Tr.set (d + 1) (.node l v r) k o).get k' = some x → (k' = k ∧ o = some x) ∨ (k' ≠ k ∧ (Tr.node l v r).get k' = some x) := by
      intro l v r h
      rw [Tr.set_node] at h
      rw [Tr.get_node]
      by_cases h0 : k = 0
      · rw [if_pos h0, Tr.get_node] at h
        by_cases h1 : k' = 0
        · rw [if_pos h1] at h; exact .inl ⟨by omega, h⟩
        · rw [if_neg h1] at h; rw [if_neg h1]; exact .inr ⟨by omega, h⟩
      · rw [if_neg h0] at h
        by_cases hm : k % 2 = 1
        · rw [if_pos hm, Tr.get_node] at h
          by_cases h1 : k' = 0
          · rw [if_pos h1] at h ⊢; exact .inr ⟨by omega, h⟩
          · rw [if_neg h1] at h ⊢
            by_cases hm' : k' % 2 = 1
            · rw [if_pos hm'] at h ⊢
              rcases ih _ _ _ h with ⟨e, e2⟩ | ⟨e, e2⟩
              · exact .inl ⟨by omega, e2⟩
              · exact .inr ⟨fun h => e (by rw [h]), e2⟩
            · rw [if_neg hm'] at h ⊢
              exact .inr ⟨fun h => hm' (by rw [h]; exact hm), h⟩
        · rw [if_neg hm, Tr.get_node] at h
          by_cases h1 : k' = 0
          · rw [if_pos h1] at h ⊢; exact .inr ⟨by omega, h⟩
          · rw [if_neg h1] at h ⊢
            by_cases hm' : k' % 2 = 1
            · rw [if_pos hm'] at h ⊢
              exact .inr ⟨fun h => hm (by rw [← h]; exact hm'), h⟩
            · rw [if_neg hm'] at h ⊢
              rcases ih _ _ _ h with ⟨e, e2⟩ | ⟨e, e2⟩
              · exact .inl ⟨by omega, e2⟩
              · exact .inr ⟨fun h => e (by rw [h]), e2⟩
    cases t with
    | node l v r => exact key l v r h
    | nil =>
      have h' : (Tr.set (d + 1) (.node .nil none .nil) k o).get k' = some x := h
      rcases key .nil none .nil h' with h | ⟨h1, h2⟩
      · exact .inl h
      · rw [Tr.get_node] at h2
        simp [Tr.get_nil] at h2

attribute [irreducible] Tr.get Tr.set setN getN

end Go.AM

set_option linter.unusedVariables false
namespace Go.AM

/-! ## Which block, which capacity -/
abbrev Env := Nat → Option Nat

def CR (ρ : Env) (c c' : Nat) : Prop :=
  if c < capBase then c' = c else ∃ k, ρ (capId c) = some k ∧ c' + capOff c = k ∧ capLow c ≤ c'

def FR (ρ : Env) : Fn → Fn → Prop
  | .yield l, f => ∃ l', ρ l = some l' ∧ f = .yield l'
  | .func g, f => f = .func g
  | .method n, f => f = .method n
  | _, _ => False

mutual
def VR (ρ : Env) : Value → Value → Prop
  | .bool b, v => v = .bool b
  | .int k n, v => v = .int k n
  | .float _ _, _ => False
  | .complex _ _ _, _ => False
  | .string s, v => v = .string s
  | .pointer none, v => v = .pointer none
  | .pointer (some a), v => ∃ b, ρ a.block = some b ∧ v = .pointer (some ⟨b, a.off, a.spot⟩)
  | .slice none l c, v => ∃ c', CR ρ c c' ∧ v = .slice none l c'
  | .slice (some a) l c, v => ∃ b c', ρ a.block = some b ∧ CR ρ c c' ∧ v = .slice (some ⟨b, a.off, a.spot⟩) l c'
  | .map none, v => v = .map none
  | .map (some r), v => ∃ b, ρ r = some b ∧ v = .map (some b)
  | .chan _, _ => False
  | .func fn ⟨f⟩ ⟨c⟩, v => ∃ fn' f' c', FR ρ fn fn' ∧ VRL ρ f f' ∧ VRL ρ c c' ∧ v = .func fn' ⟨f'⟩ ⟨c'⟩
  | .nilFunc, v => v = .nilFunc
  | .iface t x, v => ∃ x', VR ρ x x' ∧ v = .iface t x'
  | .nilIface, v => v = .nilIface
  | .agg ⟨cs⟩, v => ∃ cs', VRL ρ cs cs' ∧ v = .agg ⟨cs'⟩
  | .tuple ⟨cs⟩, v => ∃ cs', VRL ρ cs cs' ∧ v = .tuple ⟨cs'⟩
def VRL (ρ : Env) : List Value → List Value → Prop
  | [], l => l = []
  | x :: xs, l => ∃ y ys, VR ρ x y ∧ VRL ρ xs ys ∧ l = y :: ys
end

def Sub (ρ ρ' : Env) : Prop := ∀ id b, ρ id = some b → ρ' id = some b
theorem Sub.refl (ρ : Env) : Sub ρ ρ := fun _ _ h => h
theorem Sub.trans {a b c : Env} (h : Sub a b) (h' : Sub b c) : Sub a c := fun _ _ x => h' _ _ (h _ _ x)

theorem CR.mono {ρ ρ' : Env} (h : Sub ρ ρ') {c c' : Nat} (hc : CR ρ c c') : CR ρ' c c' := by
  unfold CR at *
  split
  · rename_i hlt; simpa [hlt] using hc
  · rename_i hlt; simp only [hlt, if_false] at hc; obtain ⟨k, h1, h2⟩ := hc; exact ⟨k, h _ _ h1, h2⟩
theorem FR.mono {ρ ρ' : Env} (h : Sub ρ ρ') : ∀ {f f' : Fn}, FR ρ f f' → FR ρ' f f'
  | .yield l, f', hf => by obtain ⟨l', h1, h2⟩ := hf; exact ⟨l', h _ _ h1, h2⟩
  | .func g, f', hf => hf
  | .method n, f', hf => hf
  | .methodOf _ _, f', hf => hf.elim
  | .via _ _ _ _, f', hf => hf.elim

mutual
theorem VR.mono {ρ ρ' : Env} (h : Sub ρ ρ') : ∀ (v : Value) {v' : Value}, VR ρ v v' → VR ρ' v v'
  | .bool b, v', hv => hv
  | .int k n, v', hv => hv
  | .float _ _, v', hv => hv.elim
  | .complex _ _ _, v', hv => hv.elim
  | .string s, v', hv => hv
  | .pointer none, v', hv => hv
  | .pointer (some a), v', hv => by obtain ⟨b, h1, h2⟩ := hv; exact ⟨b, h _ _ h1, h2⟩
  | .slice none l c, v', hv => by obtain ⟨c', h1, h2⟩ := hv; exact ⟨c', h1.mono h, h2⟩
  | .slice (some a) l c, v', hv => by obtain ⟨b, c', h1, h2, h3⟩ := hv; exact ⟨b, c', h _ _ h1, h2.mono h, h3⟩
  | .map none, v', hv => hv
  | .map (some r), v', hv => by obtain ⟨b, h1, h2⟩ := hv; exact ⟨b, h _ _ h1, h2⟩
  | .chan _, v', hv => hv.elim
  | .func fn ⟨f⟩ ⟨c⟩, v', hv => by obtain ⟨fn', f', c', h1, h2, h3, h4⟩ := hv; exact ⟨fn', f', c', h1.mono h, VRL.mono h f h2, VRL.mono h c h3, h4⟩
  | .nilFunc, v', hv => hv
  | .iface t x, v', hv => by obtain ⟨x', h1, h2⟩ := hv; exact ⟨x', VR.mono h x h1, h2⟩
  | .nilIface, v', hv => hv
  | .agg ⟨cs⟩, v', hv => by obtain ⟨cs', h1, h2⟩ := hv; exact ⟨cs', VRL.mono h cs h1, h2⟩
  | .tuple ⟨cs⟩, v', hv => by obtain ⟨cs', h1, h2⟩ := hv; exact ⟨cs', VRL.mono h cs h1, h2⟩
theorem VRL.mono {ρ ρ' : Env} (h : Sub ρ ρ') : ∀ (l : List Value) {l' : List Value}, VRL ρ l l' → VRL ρ' l l'
  | [], l', hl => hl
  | x :: xs, l', hl => by obtain ⟨y, ys, h1, h2, h3⟩ := hl; exact ⟨y, ys, VR.mono h x h1, VRL.mono h xs h2, h3⟩
end

/-! ## Lists of values -/
theorem VRL.length {ρ : Env} {l l' : List Value} (h : VRL ρ l l') : l'.length = l.length := by
  induction l generalizing l' with
  | nil => cases h; rfl
  | cons x xs ih => obtain ⟨y, ys, h1, h2, rfl⟩ := h; simp [ih h2]
theorem VRL.getD {ρ : Env} {l l' : List Value} (h : VRL ρ l l') (i : Nat) {d d' : Value} (hd : VR ρ d d') : VR ρ (l.getD i d) (l'.getD i d') := by
  induction l generalizing l' i with
  | nil => cases h; simpa using hd
  | cons x xs ih =>
    obtain ⟨y, ys, h1, h2, rfl⟩ := h
    cases i with
    | zero => simpa using h1
    | succ i => simpa using ih h2 i
theorem VRL.get? {ρ : Env} {l l' : List Value} (h : VRL ρ l l') {i : Nat} {x : Value} (hx : l[i]? = some x) : ∃ y, l'[i]? = some y ∧ VR ρ x y := by
  induction l generalizing l' i with
  | nil => simp at hx
  | cons x xs ih =>
    obtain ⟨y, ys, h1, h2, rfl⟩ := h
    cases i with
    | zero => simp at hx; subst hx; exact ⟨y, by simp, h1⟩
    | succ i => simpa using ih h2 (by simpa using hx)
theorem VRL.set {ρ : Env} {l l' : List Value} (h : VRL ρ l l') (i : Nat) {x y : Value} (hx : VR ρ x y) : VRL ρ (l.set i x) (l'.set i y) := by
  induction l generalizing l' i with
  | nil => cases h; exact rfl
  | cons x xs ih =>
    obtain ⟨y, ys, h1, h2, rfl⟩ := h
    cases i with
    | zero => exact ⟨_, _, hx, h2, rfl⟩
    | succ i => exact ⟨_, _, h1, ih h2 i, rfl⟩
theorem VRL.append {ρ : Env} {a a' b b' : List Value} (h : VRL ρ a a') (k : VRL ρ b b') : VRL ρ (a ++ b) (a' ++ b') := by
  induction a generalizing a' with
  | nil => cases h; exact k
  | cons x xs ih => obtain ⟨y, ys, h1, h2, rfl⟩ := h; exact ⟨_, _, h1, ih h2, rfl⟩
theorem VRL.take {ρ : Env} {a a' : List Value} (h : VRL ρ a a') (n : Nat) : VRL ρ (a.take n) (a'.take n) := by
  induction a generalizing a' n with
  | nil => cases h; simp [VRL]
  | cons x xs ih =>
    obtain ⟨y, ys, h1, h2, rfl⟩ := h
    cases n with
    | zero => simp [VRL]
    | succ n => exact ⟨_, _, h1, ih h2 n, rfl⟩
theorem VRL.drop {ρ : Env} {a a' : List Value} (h : VRL ρ a a') (n : Nat) : VRL ρ (a.drop n) (a'.drop n) := by
  induction a generalizing a' n with
  | nil => cases h; simp [VRL]
  | cons x xs ih =>
    obtain ⟨y, ys, h1, h2, rfl⟩ := h
    cases n with
    | zero => exact ⟨_, _, h1, h2, rfl⟩
    | succ n => simpa using ih h2 n
theorem VRL.map {ρ : Env} {α : Type} (l : List α) (f f' : α → Value) (h : ∀ x ∈ l, VR ρ (f x) (f' x)) : VRL ρ (l.map f) (l.map f') := by
  induction l with
  | nil => simp [VRL]
  | cons x xs ih => exact ⟨_, _, h x (by simp), ih (fun y hy => h y (by simp [hy])), rfl⟩
theorem VRL.replicate {ρ : Env} (n : Nat) {x y : Value} (h : VR ρ x y) : VRL ρ (List.replicate n x) (List.replicate n y) := by
  induction n with
  | zero => simp [VRL]
  | succ n ih => exact ⟨_, _, h, ih, rfl⟩
theorem VRL.self {ρ : Env} : ∀ (l : List Value), (∀ x ∈ l, VR ρ x x) → VRL ρ l l
  | [], _ => rfl
  | x :: xs, h => ⟨x, xs, h x (by simp), VRL.self xs (fun y hy => h y (by simp [hy])), rfl⟩
theorem VR.undef {ρ : Env} : VR ρ Go.undef Go.undef := ⟨[], rfl, rfl⟩

/-- A value with no address is one with what it stands for. -/
theorem VR.ground {ρ : Env} {v v' : Value} (h : VR ρ v v') (g : ground v = true) : v' = v := by
  cases v with
  | bool b => exact h
  | int k n => exact h
  | string s => exact h
  | agg cs =>
    obtain ⟨cs⟩ := cs
    obtain ⟨cs', h1, rfl⟩ := h
    congr 2
    have g' : cs.all (fun | .bool _ | .int _ _ | .string _ => true | _ => false) = true := g
    clear g
    induction cs generalizing cs' with
    | nil => exact h1
    | cons x xs ih =>
      obtain ⟨y, ys, h2, h3, rfl⟩ := h1
      simp only [List.all_cons, Bool.and_eq_true] at g'
      rw [ih ys h3 g'.2]
      congr 1
      cases x <;> simp at g' <;> exact h2
  | _ => simp [AM.ground] at g

theorem VR.cells {ρ : Env} {v v' : Value} (h : VR ρ v v') : VRL ρ v.cells.toList v'.cells.toList := by
  cases v with
  | agg cs => obtain ⟨cs⟩ := cs; obtain ⟨cs', h1, rfl⟩ := h; exact h1
  | bool b => cases h; exact ⟨_, _, rfl, rfl, rfl⟩
  | int k n => cases h; exact ⟨_, _, rfl, rfl, rfl⟩
  | float _ _ => exact h.elim
  | complex _ _ _ => exact h.elim
  | string s => cases h; exact ⟨_, _, rfl, rfl, rfl⟩
  | pointer a =>
    cases a with
    | none => cases h; exact ⟨_, _, rfl, rfl, rfl⟩
    | some a => obtain ⟨b, h1, rfl⟩ := h; exact ⟨_, _, ⟨b, h1, rfl⟩, rfl, rfl⟩
  | slice a l c =>
    cases a with
    | none => obtain ⟨c', h1, rfl⟩ := h; exact ⟨_, _, ⟨c', h1, rfl⟩, rfl, rfl⟩
    | some a => obtain ⟨b, c', h1, h2, rfl⟩ := h; exact ⟨_, _, ⟨b, c', h1, h2, rfl⟩, rfl, rfl⟩
  | map r =>
    cases r with
    | none => cases h; exact ⟨_, _, rfl, rfl, rfl⟩
    | some r => obtain ⟨b, h1, rfl⟩ := h; exact ⟨_, _, ⟨b, h1, rfl⟩, rfl, rfl⟩
  | chan _ => exact h.elim
  | func fn f c => obtain ⟨f⟩ := f; obtain ⟨c⟩ := c; obtain ⟨a, b, d, h1, h2, h3, rfl⟩ := h; exact ⟨_, _, ⟨a, b, d, h1, h2, h3, rfl⟩, rfl, rfl⟩
  | nilFunc => cases h; exact ⟨_, _, rfl, rfl, rfl⟩
  | iface t x => obtain ⟨x', h1, rfl⟩ := h; exact ⟨_, _, ⟨x', h1, rfl⟩, rfl, rfl⟩
  | nilIface => cases h; exact ⟨_, _, rfl, rfl, rfl⟩
  | tuple cs => obtain ⟨cs⟩ := cs; obtain ⟨cs', h1, rfl⟩ := h; exact ⟨_, _, ⟨cs', h1, rfl⟩, rfl, rfl⟩

end Go.AM

namespace Go.AM

def unfrozen : Obj → Prop
  | .cells c _ fz => ∀ off, off < c.size → ¬ (fz.1 ≤ off ∧ off < fz.2)
  | _ => True

def ER (ρ : Env) (e e' : MapEntry) : Prop := e'.key = e.key ∧ ground e.key = true ∧ VR ρ e.val e'.val ∧ e'.born = e.born
def ERL (ρ : Env) : List MapEntry → List MapEntry → Prop
  | [], l => l = []
  | e :: es, l => ∃ e' es', ER ρ e e' ∧ ERL ρ es es' ∧ l = e' :: es'

def VRP (ρ : Env) (c l : List Value) : Prop := ∃ hd tl, l = hd ++ tl ∧ VRL ρ c hd

/-- What is known of a block is so. -/
def OR (T : Tab) (ρ : Env) : AO → Obj → Prop
  | .cells c e g, ob => ∃ c' fz, ob = .cells c' e fz ∧ VRP ρ c c'.toList ∧
      ∀ cap, g = some cap → ∃ k size, ρ (capId cap) = some k ∧ capBase ≤ cap ∧ capOff cap = 0 ∧ sizeOf T e = some size ∧ c'.size = k * size
  | .map es clock, ob => ∃ es', ob = .map ⟨es'⟩ clock ∧ ERL ρ es es'
  | .loop st pending tmps params assign body defers, ob => ∃ fn tmps' d, ob = .loop { state := st, pending := pending, fn := fn, tmps := ⟨tmps'⟩, params := params, assign := assign, body := body, defers := d } ∧ VRL ρ tmps tmps' ∧ ρ defers = some d
  | .defs true, ob => ob = .deferred (some [])
  | .defs false, ob => ob = .deferred none
  | .iter s pos, ob => ob = .stringIter s pos

theorem ER.mono {ρ ρ' : Env} (h : Sub ρ ρ') {e e' : MapEntry} (he : ER ρ e e') : ER ρ' e e' := ⟨he.1, he.2.1, VR.mono h _ he.2.2.1, he.2.2.2⟩
theorem ERL.mono {ρ ρ' : Env} (h : Sub ρ ρ') : ∀ {l l' : List MapEntry}, ERL ρ l l' → ERL ρ' l l'
  | [], _, hl => hl
  | _ :: _, _, ⟨e', es', h1, h2, h3⟩ => ⟨e', es', h1.mono h, h2.mono h, h3⟩
theorem VRP.mono {ρ ρ' : Env} (h : Sub ρ ρ') {c l : List Value} (hc : VRP ρ c l) : VRP ρ' c l := by
  obtain ⟨hd, tl, h1, h2⟩ := hc; exact ⟨hd, tl, h1, VRL.mono h c h2⟩
theorem OR.mono {T : Tab} {ρ ρ' : Env} (h : Sub ρ ρ') : ∀ {o : AO} {ob : Obj}, OR T ρ o ob → OR T ρ' o ob
  | .cells c e g, ob, ⟨c', fz, h1, h2, h3⟩ => ⟨c', fz, h1, h2.mono h, fun cap hg => by obtain ⟨k, size, a1, a2⟩ := h3 cap hg; exact ⟨k, size, h _ _ a1, a2⟩⟩
  | .map es clock, ob, ⟨es', h1, h2⟩ => ⟨es', h1, h2.mono h⟩
  | .loop .., ob, ⟨fn, tmps', d, h1, h2, h3⟩ => ⟨fn, tmps', d, h1, VRL.mono h _ h2, h _ _ h3⟩
  | .defs true, ob, ho => ho
  | .defs false, ob, ho => ho
  | .iter _ _, ob, ho => ho

structure HRK (T : Tab) (ρ : Env) (N lim : Nat) (K : Nat → AO → Prop) (w : World) : Prop where
  obj : ∀ id o, K id o → ∃ b ob, ρ id = some b ∧ w.heap[b]? = some ob ∧ OR T ρ o ob ∧ (lim ≤ id → N ≤ b ∧ unfrozen ob)
  inj : ∀ id id' o o' b, K id o → K id' o' → ρ id = some b → ρ id' = some b → id = id'
  size : N ≤ w.heap.size

def AS.K (s : AS) (id : Nat) (o : AO) : Prop := s.heap.get id = some o

/-- The world is as the state says. -/
structure HR (T : Tab) (ρ : Env) (N : Nat) (s : AS) (w : World) : Prop where
  k : HRK T ρ N s.lim s.K w
  fresh : ∀ id, s.next ≤ id → ρ id = none
  glob : ∀ g, g ≤ T.nglob → ρ g = some g

structure Same (w w' : World) : Prop where
  os : w'.os = w.os
  tape : w'.tape = w.tape
  output : w'.output = w.output
theorem Same.refl (w : World) : Same w w := ⟨rfl, rfl, rfl⟩
theorem Same.trans {a b c : World} (h : Same a b) (k : Same b c) : Same a c := ⟨k.os.trans h.os, k.tape.trans h.tape, k.output.trans h.output⟩

structure Post (T : Tab) (N : Nat) (ρ : Env) (s : AS) (w : World) (ρ' : Env) (s' : AS) (w' : World) : Prop where
  hr : HR T ρ' N s' w'
  sub : Sub ρ ρ'
  lim : s'.lim = s.lim
  next : s.next ≤ s'.next
  own : ∀ id o b, s'.lim ≤ id → s'.K id o → ρ' id = some b → w.heap.size ≤ b ∨ ∃ id0 o0, s.lim ≤ id0 ∧ s.K id0 o0 ∧ ρ id0 = some b
  seen : ∀ id o b, s'.K id o → ρ' id = some b → w.heap.size ≤ b ∨ ∃ id0 o0, s.K id0 o0 ∧ ρ id0 = some b
  frame : ∀ b, b < w.heap.size → (∀ id o, s.lim ≤ id → s.K id o → ρ id ≠ some b) → w'.heap[b]? = w.heap[b]?
  size : w.heap.size ≤ w'.heap.size
  env : Same w w'

theorem Post.refl {T : Tab} {N : Nat} {ρ : Env} {s : AS} {w : World} (h : HR T ρ N s w) : Post T N ρ s w ρ s w where
  hr := h
  sub := Sub.refl _
  lim := rfl
  next := Nat.le_refl _
  own := fun id o b h1 h2 h3 => .inr ⟨id, o, h1, h2, h3⟩
  seen := fun id o b h2 h3 => .inr ⟨id, o, h2, h3⟩
  frame := fun _ _ _ => rfl
  size := Nat.le_refl _
  env := Same.refl _

theorem Post.trans {T : Tab} {N : Nat} {ρ ρ1 ρ2 : Env} {s s1 s2 : AS} {w w1 w2 : World} (h : Post T N ρ s w ρ1 s1 w1) (k : Post T N ρ1 s1 w1 ρ2 s2 w2) : Post T N ρ s w ρ2 s2 w2 where
  hr := k.hr
  sub := h.sub.trans k.sub
  lim := k.lim.trans h.lim
  next := Nat.le_trans h.next k.next
  own := fun id o b h1 h2 h3 => by
    rcases k.own id o b h1 h2 h3 with h4 | ⟨id0, o0, h4, h5, h6⟩
    · exact .inl (Nat.le_trans h.size h4)
    · exact h.own id0 o0 b h4 h5 h6
  seen := fun id o b h2 h3 => by
    rcases k.seen id o b h2 h3 with h4 | ⟨id0, o0, h5, h6⟩
    · exact .inl (Nat.le_trans h.size h4)
    · exact h.seen id0 o0 b h5 h6
  frame := fun b hb hn => by
    rw [k.frame b (Nat.lt_of_lt_of_le hb h.size) (fun id o h1 h2 h3 => ?_), h.frame b hb hn]
    rcases h.own id o b h1 h2 h3 with h4 | ⟨id0, o0, h4, h5, h6⟩
    · omega
    · exact hn id0 o0 h4 h5 h6
  size := Nat.le_trans h.size k.size
  env := h.env.trans k.env

theorem Post.below {T : Tab} {N : Nat} {ρ ρ' : Env} {s s' : AS} {w w' : World} (hr : HR T ρ N s w) (h : Post T N ρ s w ρ' s' w') : RowKit.Below N w w' where
  os := h.env.os
  tape := h.env.tape
  output := h.env.output
  size := h.size
  block := fun k hk => h.frame k (Nat.lt_of_lt_of_le hk hr.k.size) (fun id o h1 h2 h3 => by
    obtain ⟨b, ob, e1, _, _, e2⟩ := hr.k.obj id o h2
    rw [e1] at h3; cases h3
    exact absurd (e2 h1).1 (by omega))

/-- A block of the world is another; all else is as it was. -/
structure Upd (w w' : World) (b : Nat) (ob : Obj) : Prop where
  size : w'.heap.size = w.heap.size
  at_ : b < w.heap.size → w'.heap[b]? = some ob
  other : ∀ i, i ≠ b → w'.heap[i]? = w.heap[i]?
  env : Same w w'

section
variable {T : Tab} {N : Nat} {ρ : Env} {s : AS} {w : World}

/-- The heap as it was, but for draws. -/
theorem HR.same (h : HR T ρ N s w) {w' : World} (he : w'.heap = w.heap) (env : Same w w') : Post T N ρ s w ρ s w' where
  hr := ⟨⟨fun id o hk => by rw [he]; exact h.k.obj id o hk, h.k.inj, by rw [he]; exact h.k.size⟩, h.fresh, h.glob⟩
  sub := Sub.refl _
  lim := rfl
  next := Nat.le_refl _
  own := fun id o b h1 h2 h3 => .inr ⟨id, o, h1, h2, h3⟩
  seen := fun id o b h2 h3 => .inr ⟨id, o, h2, h3⟩
  frame := fun _ _ _ => by rw [he]
  size := by rw [he]; exact Nat.le_refl _
  env := env

theorem HR.lt (h : HR T ρ N s w) {id : Nat} {o : AO} (hk : s.K id o) {b : Nat} (hb : ρ id = some b) : b < w.heap.size := by
  obtain ⟨b', ob, e1, e2, _⟩ := h.k.obj id o hk
  rw [hb] at e1; cases e1
  rcases Nat.lt_or_ge b w.heap.size with h | h
  · exact h
  · rw [Array.getElem?_eq_none h] at e2; cases e2
theorem HR.idLt (h : HR T ρ N s w) {id b : Nat} (hb : ρ id = some b) : id < s.next := by
  rcases Nat.lt_or_ge id s.next with h' | h'
  · exact h'
  · rw [h.fresh id h'] at hb; cases hb

/-- A block of the state's own turns. -/
theorem HR.put (h : HR T ρ N s w) {w' : World} {id b : Nat} {o o' : AO} {ob' : Obj} (hk : s.K id o) (hm : s.lim ≤ id) (hb : ρ id = some b) (hu : Upd w w' b ob') (ho : OR T ρ o' ob') (hf : unfrozen ob') :
    Post T N ρ s w ρ (s.put id o') w' := by
  have hbl := h.lt hk hb
  have hN : N ≤ b := by obtain ⟨b', ob, e1, _, _, e2⟩ := h.k.obj id o hk; rw [hb] at e1; cases e1; exact (e2 hm).1
  have hK : ∀ i x, (s.put id o').K i x → (i = id ∧ x = o') ∨ (i ≠ id ∧ s.K i x) := fun i x hx => by
    rcases Tr.get_set 48 s.heap id (some o') i x hx with ⟨e1, e2⟩ | e
    · exact .inl ⟨e1, (Option.some.inj e2).symm⟩
    · exact .inr e
  refine { hr := ⟨⟨fun i x hx => ?_, fun i j x y c hx hy h1 h2 => ?_, by rw [hu.size]; exact h.k.size⟩, h.fresh, h.glob⟩, sub := Sub.refl _, lim := rfl, next := Nat.le_refl _, own := fun i x c h1 hx h3 => ?_, seen := fun i x c hx h3 => (by rcases hK i x hx with ⟨rfl, rfl⟩ | ⟨_, hx'⟩; exact .inr ⟨i, o, hk, h3⟩; exact .inr ⟨i, x, hx', h3⟩), frame := fun c hc hn => ?_, size := by rw [hu.size]; exact Nat.le_refl _, env := hu.env }
  · rcases hK i x hx with ⟨rfl, rfl⟩ | ⟨hne, hx'⟩
    · exact ⟨b, ob', hb, hu.at_ hbl, ho, fun _ => ⟨hN, hf⟩⟩
    · obtain ⟨c, oc, e1, e2, e3, e4⟩ := h.k.obj i x hx'
      refine ⟨c, oc, e1, ?_, e3, e4⟩
      rw [hu.other c (fun e => hne (h.k.inj i id x o b hx' hk (by rw [← e]; exact e1) hb))]
      exact e2
  · have ex : ∃ x, s.K i x := by rcases hK i x hx with ⟨rfl, rfl⟩ | ⟨_, h⟩; exact ⟨o, hk⟩; exact ⟨_, h⟩
    have ey : ∃ y, s.K j y := by rcases hK j y hy with ⟨rfl, rfl⟩ | ⟨_, h⟩; exact ⟨o, hk⟩; exact ⟨_, h⟩
    obtain ⟨x, hx⟩ := ex; obtain ⟨y, hy⟩ := ey
    exact h.k.inj i j x y c hx hy h1 h2
  · rcases hK i x hx with ⟨rfl, rfl⟩ | ⟨_, hx'⟩
    · exact .inr ⟨i, o, hm, hk, h3⟩
    · exact .inr ⟨i, x, h1, hx', h3⟩
  · exact hu.other c (fun e => hn id o hm hk (by rw [e]; exact hb))

/-- A block is known no more. -/
theorem HR.del (h : HR T ρ N s w) (id : Nat) : Post T N ρ s w ρ (s.del id) w := by
  have hK : ∀ i x, (s.del id).K i x → s.K i x := fun i x hx => by
    rcases Tr.get_set 48 s.heap id none i x hx with ⟨_, e2⟩ | e
    · cases e2
    · exact e.2
  exact { hr := ⟨⟨fun i x hx => h.k.obj i x (hK i x hx), fun i j x y c hx hy => h.k.inj i j x y c (hK i x hx) (hK j y hy), h.k.size⟩, h.fresh, h.glob⟩, sub := Sub.refl _, lim := rfl, next := Nat.le_refl _,
          own := fun i x c h1 hx h3 => .inr ⟨i, x, h1, hK i x hx, h3⟩, seen := fun i x c hx h3 => .inr ⟨i, x, hK i x hx, h3⟩, frame := fun _ _ _ => rfl, size := Nat.le_refl _, env := Same.refl _ }

def upd (ρ : Env) (id b : Nat) : Env := fun i => if i = id then some b else ρ i
theorem sub_upd {ρ : Env} {id b : Nat} (h : ρ id = none) : Sub ρ (upd ρ id b) := fun i c hi => by
  unfold upd; split
  · rename_i e; rw [e, h] at hi; cases hi
  · exact hi
theorem upd_self {ρ : Env} {id b : Nat} : upd ρ id b id = some b := by simp [upd]
theorem upd_other {ρ : Env} {id b i : Nat} (h : i ≠ id) : upd ρ id b i = ρ i := by simp [upd, h]

/-- A number is given a name. -/
theorem HR.name (h : HR T ρ N s w) (k : Nat) : Post T N ρ s w (upd ρ s.next k) { s with next := s.next + 1 } w := by
  have hs : Sub ρ (upd ρ s.next k) := sub_upd (h.fresh _ (Nat.le_refl _))
  have hK : ∀ i x, s.K i x → i ≠ s.next := fun i x hx e => by
    obtain ⟨b, ob, e1, _⟩ := h.k.obj i x hx
    have := h.idLt e1; omega
  refine { hr := ⟨⟨fun i x hx => ?_, fun i j x y c hx hy h1 h2 => ?_, h.k.size⟩, fun i hi => ?_, fun g hg => hs _ _ (h.glob g hg)⟩, sub := hs, lim := rfl, next := Nat.le_succ _, own := fun i x c h1 hx h3 => ?_, seen := fun i x c hx h3 => .inr ⟨i, x, hx, (by rw [upd_other (hK i x hx)] at h3; exact h3)⟩, frame := fun _ _ _ => rfl, size := Nat.le_refl _, env := Same.refl _ }
  · obtain ⟨b, ob, e1, e2, e3, e4⟩ := h.k.obj i x hx
    exact ⟨b, ob, hs _ _ e1, e2, e3.mono hs, e4⟩
  · rw [upd_other (hK i x hx)] at h1; rw [upd_other (hK j y hy)] at h2
    exact h.k.inj i j x y c hx hy h1 h2
  · have hi' : s.next + 1 ≤ i := hi
    rw [upd_other (by omega)]; exact h.fresh i (by omega)
  · rw [upd_other (hK i x hx)] at h3; exact .inr ⟨i, x, h1, hx, h3⟩

/-- A new block. -/
theorem HR.new (h : HR T ρ N s w) {o : AO} {ob : Obj} (ho : OR T ρ o ob) (hf : unfrozen ob) (w' : World) (hw : w'.heap = w.heap.push ob) (env : Same w w') :
    Post T N ρ s w (upd ρ s.next w.heap.size) (s.new o) w' := by
  have hs : Sub ρ (upd ρ s.next w.heap.size) := sub_upd (h.fresh _ (Nat.le_refl _))
  have hK : ∀ i x, (s.new o).K i x → (i = s.next ∧ x = o) ∨ (i ≠ s.next ∧ s.K i x) := fun i x hx => by
    rcases Tr.get_set 48 s.heap s.next (some o) i x hx with ⟨e1, e2⟩ | e
    · exact .inl ⟨e1, (Option.some.inj e2).symm⟩
    · exact .inr e
  have hold : ∀ i x b, s.K i x → ρ i = some b → w'.heap[b]? = w.heap[b]? := fun i x b hx hb => by
    have := h.lt hx hb
    rw [hw, Array.getElem?_push, if_neg (by omega)]
  refine { hr := ⟨⟨fun i x hx => ?_, fun i j x y c hx hy h1 h2 => ?_, by rw [hw]; simp; have := h.k.size; omega⟩, fun i hi => ?_, fun g hg => hs _ _ (h.glob g hg)⟩, sub := hs, lim := rfl, next := Nat.le_succ _, own := fun i x c h1 hx h3 => ?_, seen := fun i x c hx h3 => ?_, frame := fun c hc _ => by rw [hw, Array.getElem?_push, if_neg (by omega)], size := by rw [hw]; simp, env := env }
  · rcases hK i x hx with ⟨rfl, rfl⟩ | ⟨hne, hx'⟩
    · exact ⟨w.heap.size, ob, upd_self, by rw [hw]; simp, ho.mono hs, fun _ => ⟨h.k.size, hf⟩⟩
    · obtain ⟨b, ob', e1, e2, e3, e4⟩ := h.k.obj i x hx'
      exact ⟨b, ob', hs _ _ e1, by rw [hold i x b hx' e1]; exact e2, e3.mono hs, e4⟩
  · rcases hK i x hx with ⟨rfl, rfl⟩ | ⟨hne, hx'⟩ <;> rcases hK j y hy with ⟨rfl, rfl⟩ | ⟨hne', hy'⟩
    · rfl
    · rw [upd_self] at h1; rw [upd_other hne'] at h2
      have := h.lt hy' h2; have := Option.some.inj h1; omega
    · rw [upd_self] at h2; rw [upd_other hne] at h1
      have := h.lt hx' h1; have := Option.some.inj h2; omega
    · rw [upd_other hne] at h1; rw [upd_other hne'] at h2
      exact h.k.inj i j x y c hx' hy' h1 h2
  · have hi' : s.next + 1 ≤ i := hi
    rw [upd_other (by omega)]; exact h.fresh i (by omega)
  · rcases hK i x hx with ⟨rfl, rfl⟩ | ⟨hne, hx'⟩
    · rw [upd_self] at h3; exact .inl (by have := Option.some.inj h3; omega)
    · rw [upd_other hne] at h3; exact .inr ⟨i, x, h1, hx', h3⟩
  · rcases hK i x hx with ⟨rfl, rfl⟩ | ⟨hne, hx'⟩
    · rw [upd_self] at h3; exact .inl (by have := Option.some.inj h3; omega)
    · rw [upd_other hne] at h3; exact .inr ⟨i, x, hx', h3⟩

/-- A block of the state's own goes on under a new name, its content turned. -/
theorem HR.turn (h : HR T ρ N s w) {w' : World} {id b : Nat} {o o' : AO} {ob' : Obj} (hk : s.K id o) (hm : s.lim ≤ id) (hb : ρ id = some b) (hu : Upd w w' b ob') (ho : OR T ρ o' ob') (hf : unfrozen ob') :
    Post T N ρ s w (upd ρ s.next b) ((s.del id).new o') w' := by
  have hs : Sub ρ (upd ρ s.next b) := sub_upd (h.fresh _ (Nat.le_refl _))
  have hbl := h.lt hk hb
  have hN : N ≤ b := by obtain ⟨b', ob, e1, _, _, e2⟩ := h.k.obj id o hk; rw [hb] at e1; cases e1; exact (e2 hm).1
  have hlim : s.lim ≤ s.next := by have := h.idLt hb; omega
  have hK : ∀ i x, ((s.del id).new o').K i x → (i = s.next ∧ x = o') ∨ (i ≠ s.next ∧ i ≠ id ∧ s.K i x) := fun i x hx => by
    rcases Tr.get_set 48 (s.del id).heap (s.del id).next (some o') i x hx with ⟨e1, e2⟩ | ⟨e1, e2⟩
    · exact .inl ⟨e1, (Option.some.inj e2).symm⟩
    · rcases Tr.get_set 48 s.heap id none i x e2 with ⟨_, e3⟩ | ⟨e3, e4⟩
      · cases e3
      · exact .inr ⟨e1, e3, e4⟩
  have hne' : ∀ i x c, i ≠ id → s.K i x → ρ i = some c → c ≠ b := fun i x c hi hx hc e => hi (h.k.inj i id x o b hx hk (by rw [← e]; exact hc) hb)
  refine { hr := ⟨⟨fun i x hx => ?_, fun i j x y c hx hy h1 h2 => ?_, by rw [hu.size]; exact h.k.size⟩, fun i hi => ?_, fun g hg => hs _ _ (h.glob g hg)⟩, sub := hs, lim := rfl, next := Nat.le_succ _, own := fun i x c h1 hx h3 => ?_, seen := fun i x c hx h3 => ?_, frame := fun c hc hn => ?_, size := by rw [hu.size]; exact Nat.le_refl _, env := hu.env }
  · rcases hK i x hx with ⟨rfl, rfl⟩ | ⟨hne, hi, hx'⟩
    · exact ⟨b, ob', upd_self, hu.at_ hbl, ho.mono hs, fun _ => ⟨hN, hf⟩⟩
    · obtain ⟨c, oc, e1, e2, e3, e4⟩ := h.k.obj i x hx'
      exact ⟨c, oc, hs _ _ e1, by rw [hu.other c (hne' i x c hi hx' e1)]; exact e2, e3.mono hs, e4⟩
  · rcases hK i x hx with ⟨rfl, rfl⟩ | ⟨hne, hi, hx'⟩ <;> rcases hK j y hy with ⟨rfl, rfl⟩ | ⟨hne2, hj, hy'⟩
    · rfl
    · rw [upd_self] at h1; rw [upd_other hne2] at h2
      exact absurd (Option.some.inj h1).symm (hne' j y c hj hy' h2)
    · rw [upd_self] at h2; rw [upd_other hne] at h1
      exact absurd (Option.some.inj h2).symm (hne' i x c hi hx' h1)
    · rw [upd_other hne] at h1; rw [upd_other hne2] at h2
      exact h.k.inj i j x y c hx' hy' h1 h2
  · have hi' : s.next + 1 ≤ i := hi
    rw [upd_other (by omega)]; exact h.fresh i (by omega)
  · rcases hK i x hx with ⟨rfl, rfl⟩ | ⟨hne, hi, hx'⟩
    · rw [upd_self] at h3; exact .inr ⟨id, o, hm, hk, by rw [hb]; exact h3⟩
    · rw [upd_other hne] at h3; exact .inr ⟨i, x, h1, hx', h3⟩
  · rcases hK i x hx with ⟨rfl, rfl⟩ | ⟨hne, hi, hx'⟩
    · rw [upd_self] at h3; exact .inr ⟨id, o, hk, by rw [hb]; exact h3⟩
    · rw [upd_other hne] at h3; exact .inr ⟨i, x, hx', h3⟩
  · exact hu.other c (fun e => hn id o hm hk (by rw [e]; exact hb))
end

end Go.AM

