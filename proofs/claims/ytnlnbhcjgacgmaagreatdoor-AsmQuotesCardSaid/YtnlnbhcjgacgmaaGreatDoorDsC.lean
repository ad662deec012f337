/- A deterministic layer over the model, part C: what each operation does, over handles. -/
import Derived.Test.YtnlnbhcjgacgmaaGreatDoorDsB
set_option linter.unusedVariables false
set_option linter.unusedSimpArgs false
namespace Go.Ds
noncomputable section

/-! ### Types, as far as they are wanted -/
inductive DK : Type where
  | bool | int (k : IntKind) | string | ptr (e : TypeId) | slice (e : TypeId) | array (n : Nat) (e : TypeId) | map (k e : TypeId)
  | struct (fs : List (Nat × TypeId)) | func | iface | unsafeP | other
structure TI : Type where
  kind : DK
  size : Nat
  bytes : Nat
  zero : Option Value
  /-- '==' at this type asks nothing but the parts. -/
  eqok : Bool
def DK.isAgg : DK → Bool
  | .struct _ => true
  | .array _ _ => true
  | _ => false
structure Ctx : Type where
  ty : Tr TI
  fn : Tr Func
  /-- Functions without a body, by values alone. -/
  ext : Nat → Option (List Value → Option Value)
  /-- Methods by the value, no receiver's address, no embedding. -/
  mth : List (TypeId × String × FuncId)
  /-- Where a variable of a type lies in another: the outer type, the cell, the inner type. -/
  lies : List (TypeId × Nat × TypeId)

inductive DR : Type where
  | val (v : Value)
  | skip
  | enter (f : FuncId) (args : List Value)
  | panic (v : Value)

/-! ### Small words -/
def bsEq : List UInt8 → List UInt8 → Bool
  | [], [] => true
  | a :: x, b :: y => Nat.beq a.toNat b.toNat && bsEq x y
  | _, _ => false
def mkS (l : List UInt8) : Value := .string ⟨⟨l⟩⟩
/-- A part of cells. -/
def dpart (C : Ctx) (t : TypeId) (cs : List Value) (off : Nat) : Option Value :=
  match C.ty.get t with
  | some i => if i.kind.isAgg then some (.agg ⟨(cs.drop off).take i.size⟩) else cs[off]?
  | none => none

/-! ### '==' -/
def deqFields (C : Ctx) (eq : TypeId → Value → Value → Option Bool) (xs ys : List Value) : List (Nat × TypeId) → Option Bool
  | [] => some true
  | (off, t) :: fs =>
    match dpart C t xs off, dpart C t ys off with
    | some a, some b =>
      match eq t a b with
      | some true => deqFields C eq xs ys fs
      | r => r
    | _, _ => none
def fieldsOfArray (e size : Nat) : Nat → Nat → List (Nat × TypeId)
  | 0, _ => []
  | n + 1, i => (i * size, e) :: fieldsOfArray e size n (i + 1)
def deq (C : Ctx) : Nat → TypeId → Value → Value → Option Bool
  | 0, _, _, _ => none
  | d + 1, t, x, y =>
    match C.ty.get t with
    | none => none
    | some i =>
      match i.kind, x, y with
      | .bool, .bool a, .bool b => some (a == b)
      | .int _, .int k a, .int k' b => if k = k' then some (a == b) else none
      | .string, .string a, .string b => some (bsEq a.data.toList b.data.toList)
      | .ptr _, .pointer none, .pointer b => some b.isNone
      | .ptr _, .pointer (some _), .pointer none => some false
      | .ptr e, .pointer (some a), .pointer (some b) =>
        match C.ty.get e with
        | some ie => if ie.size ≠ 0 ∧ a.block = b.block ∧ a.spot = none ∧ b.spot = none then some (a.off == b.off) else none
        | none => none
      | .iface, .nilIface, .nilIface => some true
      | .iface, .nilIface, .iface _ _ => some false
      | .iface, .iface _ _, .nilIface => some false
      | .struct fs, .agg xs, .agg ys => if i.eqok then deqFields C (deq C d) xs.toList ys.toList fs else none
      | .array n e, .agg xs, .agg ys =>
        match C.ty.get e with
        | some ie => if i.eqok then deqFields C (deq C d) xs.toList ys.toList (fieldsOfArray e ie.size n 0) else none
        | none => none
      | .slice _, .slice none _ _, .slice b _ _ => some b.isNone
      | .slice _, .slice (some _) _ _, .slice none _ _ => some false
      | .map _ _, .map none, .map b => some b.isNone
      | .map _ _, .map (some _), .map none => some false
      | .func, .nilFunc, .nilFunc => some true
      | .func, .nilFunc, .func _ _ _ => some false
      | .func, .func _ _ _, .nilFunc => some false
      | _, _, _ => none
def eqDepth : Nat := 8

/-! ### Operators -/
def dint (op : BinOp) (k : IntKind) (a b : Int) : Option Value :=
  match op with
  | .add => some (.int k (k.wrap (a + b)))
  | .sub => some (.int k (k.wrap (a - b)))
  | .mul => some (.int k (k.wrap (a * b)))
  | .quo => if b = 0 then none else some (.int k (k.wrap (a.tdiv b)))
  | .rem => if b = 0 then none else some (.int k (a.tmod b))
  | .and => some (.int k (k.wrap ((BitVec.ofInt k.bits a &&& BitVec.ofInt k.bits b).toNat)))
  | .or => some (.int k (k.wrap ((BitVec.ofInt k.bits a ||| BitVec.ofInt k.bits b).toNat)))
  | .xor => some (.int k (k.wrap ((BitVec.ofInt k.bits a ^^^ BitVec.ofInt k.bits b).toNat)))
  | .andNot => some (.int k (k.wrap ((BitVec.ofInt k.bits a &&& ~~~ BitVec.ofInt k.bits b).toNat)))
  | .eql => some (.bool (a == b))
  | .neq => some (.bool (a != b))
  | .lss => some (.bool (a < b))
  | .leq => some (.bool (a ≤ b))
  | .gtr => some (.bool (a > b))
  | .geq => some (.bool (a ≥ b))
  | _ => none
def dshift (op : BinOp) (k : IntKind) (a b : Int) : Option Value :=
  if b < 0 then none else
  match op with
  | .shl => some (.int k (k.wrap (a * 2 ^ (min b.toNat k.bits))))
  | .shr => some (.int k (a.fdiv (2 ^ (min b.toNat k.bits))))
  | _ => none
def maxStr : Nat := 140737488355328
def dstr (op : BinOp) (a b : List UInt8) : Option Value :=
  match op with
  | .add => if a.length + b.length ≤ maxStr then some (mkS (a ++ b)) else none
  | .eql => some (.bool (bsEq a b))
  | .neq => some (.bool (!bsEq a b))
  | .lss => some (.bool (Op.bytesLess a b))
  | .leq => some (.bool (Op.bytesLess a b || bsEq a b))
  | .gtr => some (.bool !(Op.bytesLess a b || bsEq a b))
  | .geq => some (.bool !Op.bytesLess a b)
  | _ => none
def isCst : Operand → Bool
  | .const _ => true
  | _ => false
def isNilIface : Value → Bool
  | .nilIface => true
  | _ => false
def dbinEq (C : Ctx) (op : BinOp) (t : TypeId) (ox oy : Operand) (x y : Value) : Option Value :=
  if isNilIface x && isNilIface y && !(isCst ox || isCst oy) then none else
  match op with
  | .eql => (deq C eqDepth t x y).map .bool
  | .neq => (deq C eqDepth t x y).map fun b => .bool !b
  | _ => none
def dbin (C : Ctx) (op : BinOp) (t : TypeId) (ox oy : Operand) (x y : Value) : Option Value :=
  match x, y with
  | .int k a, .int k' b =>
    match op with
    | .shl => dshift .shl k a b
    | .shr => dshift .shr k a b
    | op => if k = k' then dint op k a b else none
  | .string a, .string b => dstr op a.data.toList b.data.toList
  | _, _ => dbinEq C op t ox oy x y
def dun (op : UnOp) (x : Value) : Option Value :=
  match op, x with
  | .neg, .int k n => some (.int k (k.wrap (0 - n)))
  | .xor, .int k n => dint .xor k (if k.signed then -1 else k.max) n
  | .not, .bool b => some (.bool !b)
  | _, _ => none

/-! ### Memory -/
def dload (C : Ctx) (t : TypeId) (v : Value) (H : DH) : Option Value :=
  match v with
  | .pointer (some ⟨h, o, none⟩) =>
    match C.ty.get t, H.get h with
    | some i, some (.row cells _ _ _) =>
      if i.kind.isAgg then (if o + i.size ≤ cells.length then some (.agg ⟨(cells.drop o).take i.size⟩) else none)
      else cells[o]?
    | _, _ => none
  | _ => none
/-- May these cells be written? -/
def thaw (lo hi o n : Nat) : Bool := Nat.beq lo hi || Nat.blt hi lo || Nat.ble (o + n) lo || Nat.ble hi o
def dwrite (H : DH) (h o : Nat) (vs : List Value) : Option DH :=
  match H.get h with
  | some (.row cells e lo hi) =>
    if o + vs.length ≤ cells.length ∧ thaw lo hi o vs.length = true ∧ vs.all (·.oneCell') = true then some (H.set h (some (.row (splice cells o vs) e lo hi))) else none
  | _ => none
def dstore (C : Ctx) (t : TypeId) (v x : Value) (H : DH) : Option DH :=
  match v with
  | .pointer (some ⟨h, o, none⟩) =>
    match C.ty.get t with
    | some i => if x.cells.size = i.size then dwrite H h o x.cells.toList else none
    | none => none
  | _ => none
def dnew (H : DH) (e : TypeId) (cells : List Value) : Value × DH := (.pointer (some ⟨2 * H.n, 0, none⟩), H.alloc (.row cells e 1 1))
def dfill (place : Nat → Option (Nat × Nat)) (cells : List Value) : List (Nat × Value) → Option (List Value)
  | [] => some cells
  | (i, v) :: rest =>
    match place i with
    | none => none
    | some (off, size) => if v.cells.size = size ∧ off + size ≤ cells.length then dfill place (splice cells off v.cells.toList) rest else none
def dbuild (C : Ctx) (t : TypeId) (parts : List (Nat × Value)) : Option Value :=
  match C.ty.get t with
  | some i =>
    match i.zero with
    | none => none
    | some z =>
      match i.kind with
      | .struct fs => (dfill (fun j => match fs[j]? with | some (off, ft) => (C.ty.get ft).map fun k => (off, k.size) | none => none) z.cells.toList parts).map fun cs => .agg ⟨cs⟩
      | .array _ e =>
        match C.ty.get e with
        | some ie => (dfill (fun j => some (j * ie.size, ie.size)) z.cells.toList parts).map fun cs => .agg ⟨cs⟩
        | none => none
      | _ => none
  | none => none
def rep (z : List Value) : Nat → List Value
  | 0 => []
  | n + 1 => z ++ rep z n
def dbuildSlice (C : Ctx) (t : TypeId) (len : Nat) (parts : List (Nat × Value)) (H : DH) : Option (Value × DH) :=
  match C.ty.get t with
  | some i =>
    match i.kind with
    | .slice e =>
      match C.ty.get e with
      | some ie =>
        match ie.zero with
        | some z =>
          if ie.size ≠ 0 ∧ len * ie.size ≤ 16777216 then
            match dfill (fun j => some (j * ie.size, ie.size)) (rep z.cells.toList len) parts with
            | some cs => some (.slice (some ⟨2 * H.n, 0, some ie.size⟩) len len, H.alloc (.row cs e 0 0))
            | none => none
          else none
        | none => none
      | none => none
    | _ => none
  | none => none
def dfieldAddr (C : Ctx) (s : TypeId) (x : Value) (f : Nat) : Option Value :=
  match C.ty.get s, x with
  | some i, .pointer (some ⟨h, o, none⟩) =>
    match i.kind with
    | .struct fs =>
      match fs[f]? with
      | some (off, ft) => match C.ty.get ft with | some k => if k.size ≠ 0 then some (.pointer (some ⟨h, o + off, none⟩)) else none | none => none
      | none => none
    | _ => none
  | _, _ => none
def dfield (C : Ctx) (s : TypeId) (x : Value) (f : Nat) : Option Value :=
  match C.ty.get s, x with
  | some i, .agg cs =>
    match i.kind with
    | .struct fs => match fs[f]? with | some (off, ft) => dpart C ft cs.toList off | none => none
    | _ => none
  | _, _ => none
def dindexAddr (C : Ctx) (t : TypeId) (x ix : Value) : Option Value :=
  match C.ty.get t, ix with
  | some i, .int _ n =>
    match i.kind, x with
    | .array len e, .pointer (some ⟨h, o, none⟩) =>
      match C.ty.get e with
      | some ie => if 0 ≤ n ∧ n < len then some (.pointer (some ⟨h, o + n.toNat * ie.size, none⟩)) else none
      | none => none
    | .slice e, .slice (some ⟨h, o, some s⟩) len _ =>
      match C.ty.get e with
      | some ie => if ie.size = s ∧ 0 ≤ n ∧ n < len then some (.pointer (some ⟨h, o + n.toNat * ie.size, none⟩)) else none
      | none => none
    | _, _ => none
  | _, _ => none
def dindex (C : Ctx) (t : TypeId) (x ix : Value) : Option Value :=
  match C.ty.get t, ix with
  | some i, .int _ n =>
    match i.kind, x with
    | .array len e, .agg cs =>
      match C.ty.get e with
      | some ie => if 0 ≤ n ∧ n < len then dpart C e cs.toList (n.toNat * ie.size) else none
      | none => none
    | .string, .string s => if 0 ≤ n then (s.data.toList[n.toNat]?).map fun b => .int .u8 b.toNat else none
    | _, _ => none
  | _, _ => none
/-- Bounds: the low one, the high one, the capacity. -/
def dbound (x : Value) (y : Nat) : Option Nat :=
  match x with
  | .int _ i => if 0 ≤ i ∧ i ≤ y then some i.toNat else none
  | _ => none
def dbounds (len cap : Nat) (low high max : Option Value) : Option (Nat × Nat × Nat) :=
  match (match max with | some v => dbound v cap | none => some cap) with
  | none => none
  | some m =>
    match (match high with | some v => dbound v m | none => if max.isSome then none else some len) with
    | none => none
    | some h =>
      match (match low with | some v => dbound v h | none => some 0) with
      | none => none
      | some l => some (l, h, m)
def dslice (C : Ctx) (t : TypeId) (x : Value) (low high max : Option Value) (H : DH) : Option Value :=
  match C.ty.get t with
  | none => none
  | some i =>
    match i.kind, x with
    | .string, .string s =>
      if max.isSome then none else
      match dbounds s.size s.size low high none with
      | some (l, h, _) => some (mkS ((s.data.toList.take h).drop l))
      | none => none
    | .slice e, .slice none 0 0 =>
      match C.ty.get e, dbounds 0 0 low high max with
      | some _, some _ => some (.slice none 0 0)
      | _, _ => none
    | .slice e, .slice (some ⟨h, o, some s⟩) len cap =>
      match C.ty.get e with
      | some ie =>
        if ie.size = s then
          match dbounds len cap low high max with
          | some (l, hi, m) => some (.slice (some ⟨h, o + l * s, some s⟩) (hi - l) (m - l))
          | none => none
        else none
      | none => none
    | .array n e, .pointer (some ⟨h, o, none⟩) =>
      match C.ty.get e, H.get h with
      | some ie, some (.row cells _ _ _) =>
        if o + n * ie.size ≤ cells.length then
          match dbounds n n low high max with
          | some (l, hi, m) => some (.slice (some ⟨h, o + l * ie.size, some ie.size⟩) (hi - l) (m - l))
          | none => none
        else none
      | _, _ => none
    | _, _ => none

/-! ### Maps -/
def dfind (eq : Value → Value → Option Bool) (k : Value) : List (Value × Value) → Nat → Option (Option (Nat × Value))
  | [], _ => some none
  | (a, v) :: es, i =>
    match eq k a with
    | some true => some (some (i, v))
    | some false => dfind eq k es (i + 1)
    | none => none
/-- A key whose type, all through, is no interface. -/
def dkeyOk (C : Ctx) : Nat → TypeId → Value → Bool
  | 0, _, _ => false
  | d + 1, t, v =>
    match C.ty.get t with
    | none => false
    | some i =>
      match i.kind, v with
      | .bool, .bool _ => true
      | .int _, .int _ _ => true
      | .string, .string _ => true
      | .struct fs, .agg cs => i.eqok && (fs.all fun p => (match dpart C p.2 cs.toList p.1 with | some x => dkeyOk C d p.2 x | none => false))
      | .array n e, .agg cs => i.eqok && (match C.ty.get e with | some ie => ((fieldsOfArray e ie.size n 0).all fun p => (match dpart C p.2 cs.toList p.1 with | some x => dkeyOk C d p.2 x | none => false)) | none => false)
      | _, _ => false
def dlookup (C : Ctx) (t : TypeId) (x k : Value) (ok : Bool) (H : DH) : Option Value :=
  match C.ty.get t with
  | none => none
  | some i =>
    match i.kind with
    | .map kt et =>
      if dkeyOk C eqDepth kt k then
        match (match x with | .map none => some [] | .map (some h) => (match H.get h with | some (.map es) => some es | _ => none) | _ => none) with
        | none => none
        | some es =>
          match dfind (deq C eqDepth kt) k es 0 with
          | none => none
          | some (some (_, v)) => some (if ok then .tuple #[v, .bool true] else v)
          | some none => match C.ty.get et with | some ie => ie.zero.map fun z => if ok then .tuple #[z, .bool false] else z | none => none
      else none
    | _ => none
def sameKey (a : Option Value) (k : Value) : Bool :=
  match a with
  | some a => plain a && plain k && Instr.sameBits 12 a k
  | none => false
def dmapUpdate (C : Ctx) (t : TypeId) (m k v : Value) (H : DH) : Option DH :=
  match C.ty.get t, m with
  | some i, .map (some h) =>
    match i.kind, H.get h with
    | .map kt _, some (.map es) =>
      if dkeyOk C eqDepth kt k then
        match dfind (deq C eqDepth kt) k es 0 with
        | none => none
        | some (some (j, _)) => if sameKey (es[j]?.map (·.1)) k then some (H.set h (some (.map (es.set j (k, v))))) else none
        | some none => some (H.set h (some (.map (es ++ [(k, v)]))))
      else none
    | _, _ => none
  | _, _ => none
def ddelete (C : Ctx) (t : TypeId) (m k : Value) (H : DH) : Option DH :=
  match C.ty.get t, m with
  | some i, .map (some h) =>
    match i.kind, H.get h with
    | .map kt _, some (.map es) =>
      if dkeyOk C eqDepth kt k then
        match dfind (deq C eqDepth kt) k es 0 with
        | none => none
        | some (some (j, _)) => some (H.set h (some (.map (es.eraseIdx j))))
        | some none => some H
      else none
    | _, _ => none
  | _, _ => none

/-! ### append, copy, conversions -/
/-- The first m elements' cells of what stands behind 'append(s, ' or 'copy(d, '. -/
def dsrc (size : Nat) (x : Value) (m : Nat) (H : DH) : Option (List Value) :=
  match x with
  | .slice none _ _ => if m = 0 then some [] else none
  | .slice (some ⟨h, o, some s⟩) _ _ =>
    match H.get h with
    | some (.row cells _ _ _) => if s = size ∧ o + m * size ≤ cells.length then some ((cells.drop o).take (m * size)) else none
    | _ => none
  | .string s => if size = 1 ∧ m ≤ s.size then some ((s.data.toList.take m).map fun b => .int .u8 b.toNat) else none
  | _ => none
def dlen : Value → Option Nat
  | .slice _ n _ => some n
  | .string s => some s.size
  | _ => none
def maxN : Nat := 140737488355328
def sliceOrString : DK → Bool
  | .slice _ => true
  | .string => true
  | _ => false
/-- Behind 'append' where there may be no room: the handle dies. -/
def dgrow (e : TypeId) (sz h o n m : Nat) (news : List Value) (H : DH) : Option (Value × DH) :=
  match H.get h with
  | some (.row cells e' lo hi) =>
    if e' = e ∧ o + n * sz ≤ cells.length ∧ (lo = hi ∨ hi < lo ∨ (o ≤ lo ∧ hi ≤ o + n * sz)) then
      some (.slice (some ⟨2 * H.n, 0, some sz⟩) (n + m) (n + m),
        (H.set h none).alloc (.row ((cells.drop o).take (n * sz) ++ news) e (if lo < hi then lo - o else if hi < lo then 1 else 0) (if lo < hi then hi - o else 0)))
    else none
  | _ => none
def dappendTo (e : TypeId) (size : Nat) (s : Value) (m : Nat) (news : List Value) (H : DH) : Option (Value × DH) :=
  match s with
  | .slice none 0 0 => if m = 0 then some (.slice none 0 0, H) else some (.slice (some ⟨2 * H.n, 0, some size⟩) m m, H.alloc (.row news e 0 0))
  | .slice (some ⟨h, o, some sz⟩) n c =>
    if sz ≠ size then none else
    if n + m ≤ c then (if m = 0 then some (.slice (some ⟨h, o, some sz⟩) (n + m) c, H) else (dwrite H h (o + n * sz) news).map fun H' => (.slice (some ⟨h, o, some sz⟩) (n + m) c, H'))
    else dgrow e sz h o n m news H
  | _ => none
def dappend (C : Ctx) (t t2 : TypeId) (s x : Value) (H : DH) : Option (Value × DH) :=
  match C.ty.get t, C.ty.get t2 with
  | some i, some i2 =>
    if sliceOrString i2.kind then
      match i.kind with
      | .slice e =>
        match C.ty.get e, dlen x, dlen s with
        | some ie, some m, some n =>
          if ie.size = 0 ∨ ie.bytes = 0 ∨ maxN < (n + m) * ie.bytes ∨ ie.zero.isNone = true then none else
          match dsrc ie.size x m H with
          | none => none
          | some news => if news.all (·.oneCell') then dappendTo e ie.size s m news H else none
        | _, _, _ => none
      | _ => none
    else none
  | _, _ => none
def dcopy (C : Ctx) (t : TypeId) (d x : Value) (H : DH) : Option (Value × DH) :=
  match C.ty.get t with
  | some i =>
    match i.kind with
    | .slice e =>
      match C.ty.get e, dlen x, d with
      | some ie, some m, .slice base n _ =>
        match dsrc ie.size x (min m n) H with
        | none => none
        | some cells =>
          match base with
          | none => if n = 0 then some (.int .i64 0, H) else none
          | some ⟨h, o, some sz⟩ => if sz ≠ ie.size then none else (dwrite H h o cells).map fun H' => (.int .i64 (min m n : Nat), H')
          | _ => none
      | _, _, _ => none
    | _ => none
  | none => none
def bytesOfCells : List Value → Option (List UInt8)
  | [] => some []
  | .int .u8 n :: r => (bytesOfCells r).map fun l => UInt8.ofNat n.toNat :: l
  | _ :: _ => none
def runesOfCells : List Value → Option (List UInt8)
  | [] => some []
  | .int .i32 n :: r => (runesOfCells r).map fun l => (Utf8.encode n).data.toList ++ l
  | _ :: _ => none
def drunes (s : ByteArray) : Nat → Nat → List Value
  | 0, _ => []
  | b + 1, i => if i < s.size then .int .i32 (Int.ofNat (Utf8.decode s i).1) :: drunes s b (i + (Utf8.decode s i).2) else []
def drow (x : Value) (size : Nat) (H : DH) : Option (List Value) :=
  match x with
  | .slice none _ _ => some []
  | .slice (some ⟨h, o, some s⟩) n _ =>
    match H.get h with
    | some (.row cells _ _ _) => if s = size ∧ o + n * size ≤ cells.length then some ((cells.drop o).take (n * size)) else none
    | _ => none
  | _ => none
def dconvert (C : Ctx) (src dst : TypeId) (x : Value) (H : DH) : Option (Value × DH) :=
  match C.ty.get src, C.ty.get dst with
  | some i, some j =>
    match i.kind, j.kind, x with
    | .ptr e, .unsafeP, .pointer (some ⟨h, o, none⟩) =>
      match C.ty.get e, H.get h with
      | some ie, some (.row cells _ _ _) => if ie.size ≠ 0 ∧ o < cells.length then some (.pointer (some ⟨h, o, none⟩), H) else none
      | _, _ => none
    | .unsafeP, .ptr u, .pointer (some ⟨h, o, none⟩) =>
      match H.get h with
      | some (.row cells e lo hi) =>
        match C.ty.get e, C.ty.get u with
        | some ie, some iu => if lo = hi ∧ 0 < lo ∧ C.lies.any (fun p => Nat.beq p.1 e && Nat.beq p.2.1 o && Nat.beq p.2.2 u) = true ∧ ie.size ≤ cells.length ∧ iu.size ≠ 0 then some (.pointer (some ⟨h, o, none⟩), H) else none
        | _, _ => none
      | _ => none
    | .slice e', .slice e, .slice (some ⟨h, o, some s⟩) n c =>
      match C.ty.get e, H.get h with
      | some ie, some (.row cells e2 lo hi) =>
        match ie.kind with
        | .int .u8 => if src = dst ∧ hi ≤ lo ∧ 0 < c then some (.slice (some ⟨h, o, some s⟩) n c, (H.set h (some (.row cells e2 1 0))).bump) else none
        | _ => none
      | _, _ => none
    | _, .int k, .int _ n => some (.int k (k.wrap n), H)
    | _, .string, .int _ n => some (.string (Utf8.encode n), H)
    | _, .string, .string _ => some (x, H)
    | _, .slice e, .string s =>
      match C.ty.get e with
      | some ie =>
        match ie.kind with
        | .int .u8 => if ie.size = 1 then some (.slice (some ⟨2 * H.n, 0, some 1⟩) s.size s.size, H.alloc (.row (s.data.toList.map fun b => .int .u8 b.toNat) e 1 0)) else none
        | .int .i32 =>
          let l := drunes s s.size 0
          if ie.size = 1 then some (.slice (some ⟨2 * H.n, 0, some 1⟩) l.length l.length, H.alloc (.row l e 0 0)) else none
        | _ => none
      | none => none
    | .slice e, .string, x =>
      match C.ty.get e, drow x 1 H with
      | some ie, some cells =>
        match ie.kind with
        | .int .u8 => (bytesOfCells cells).map fun l => (mkS l, H)
        | .int .i32 => (runesOfCells cells).map fun l => (mkS l, H)
        | _ => none
      | _, _ => none
    | _, _, _ => none
  | _, _ => none
def dmakeSlice (C : Ctx) (t : TypeId) (l c : Value) (H : DH) : Option (Value × DH) :=
  match C.ty.get t, l, c with
  | some i, .int .i64 l, .int .i64 c =>
    match i.kind with
    | .slice e =>
      match C.ty.get e with
      | some ie =>
        match ie.zero with
        | some z => if 0 ≤ l ∧ l ≤ c ∧ c.toNat * ie.bytes ≤ maxN ∧ ie.size ≠ 0 ∧ c ≤ 9223372036854775807 then some (.slice (some ⟨2 * H.n, 0, some ie.size⟩) l.toNat c.toNat, H.alloc (.row (rep z.cells.toList c.toNat) e 0 0)) else none
        | none => none
      | none => none
    | _ => none
  | _, _, _ => none
def dunsafeString (C : Ctx) (pt : TypeId) (p l : Value) (H : DH) : Option (Value × DH) :=
  match p, l with
  | .pointer none, .int _ n => if n = 0 then some (mkS [], H) else none
  | .pointer (some ⟨h, o, none⟩), .int _ n =>
    if n = 0 then some (mkS [], H) else
    if n < 0 ∨ (maxN : Int) < n then none else
    match C.ty.get pt, H.get h with
    | some i, some (.row cells e lo hi) =>
      match i.kind with
      | .ptr e' =>
        match C.ty.get e with
        | some ie =>
          if e = e' ∧ ie.size = 1 ∧ o + n.toNat ≤ cells.length ∧ lo ≤ hi then
            match bytesOfCells ((cells.drop o).take n.toNat) with
            | some bs => some (mkS bs, H.set h (some (.row cells e (if lo = hi then o else min lo o) (if lo = hi then o + n.toNat else max hi (o + n.toNat)))))
            | none => none
          else none
        | none => none
      | _ => none
    | _, _ => none
  | _, _ => none
def drange (C : Ctx) (t : TypeId) (x : Value) (H : DH) : Option (Value × DH) :=
  match C.ty.get t, x with
  | some i, .string s => match i.kind with | .string => some (.pointer (some ⟨2 * H.n, 0, none⟩), H.alloc (.iter s 0)) | _ => none
  | _, _ => none
def dnext (x : Value) (H : DH) : Option (Value × DH) :=
  match x with
  | .pointer (some ⟨h, 0, none⟩) =>
    match H.get h with
    | some (.iter s pos) =>
      if pos < s.size then some (.tuple #[.bool true, .int .i64 pos, .int .i32 (Utf8.decode s pos).1], H.set h (some (.iter s (pos + (Utf8.decode s pos).2))))
      else some (.tuple #[.bool false], H)
    | _ => none
  | _ => none
def dassertV (x : Value) (z : Option Value) (asserted : TypeId) (ok : Bool) : Option Value :=
  match x, z with
  | .nilIface, some z => if ok then some (.tuple #[z, .bool false]) else none
  | .iface t v, some z => if t = asserted then some (if ok then .tuple #[v, .bool true] else v) else if ok then some (.tuple #[z, .bool false]) else none
  | _, _ => none
def concrete : DK → Bool
  | .iface => false
  | .other => false
  | _ => true
def dassert (C : Ctx) (x : Value) (asserted : TypeId) (ok : Bool) : Option Value :=
  match C.ty.get asserted with
  | some i => if concrete i.kind then dassertV x i.zero asserted ok else none
  | none => none
def dlenOp (C : Ctx) (t : TypeId) (x : Value) (H : DH) : Option Value :=
  match C.ty.get t with
  | some i =>
    match i.kind, x with
    | .string, .string s => some (.int .i64 s.size)
    | .slice _, .slice _ n _ => some (.int .i64 n)
    | .array n _, _ => some (.int .i64 n)
    | .map _ _, .map none => some (.int .i64 0)
    | .map _ _, .map (some h) => match H.get h with | some (.map es) => some (.int .i64 es.length) | _ => none
    | _, _ => none
  | none => none
def dmax (big : Bool) : Value → Value → Option Value
  | .int k x, .int _ y => some (.int k (if (if big then y > x else y < x) then y else x))
  | _, _ => none
def dmaxs (big : Bool) : Value → List Value → Option Value
  | x, [] => some x
  | x, y :: r => match dmax big x y with | some z => dmaxs big z r | none => none
def dbuiltin (C : Ctx) (b : Builtin) (ts : List TypeId) (args : List Value) (H : DH) : Option (Value × DH) :=
  match b, ts, args with
  | .len, t :: _, x :: _ => (dlenOp C t x H).map fun v => (v, H)
  | .append, t :: t2 :: _, [s, x] => dappend C t t2 s x H
  | .copy, t :: _, [d, x] => dcopy C t d x H
  | .delete, t :: _, [m, k] => (ddelete C t m k H).map fun H' => (.tuple #[], H')
  | .cap, t :: _, [.slice none 0 0] => match C.ty.get t with | some i => (match i.kind with | .slice _ => some (.int .i64 0, H) | _ => none) | none => none
  | .max, _, x :: r => (match x with | .int _ _ => (dmaxs true x r).map fun v => (v, H) | _ => none)
  | .min, _, x :: r => (match x with | .int _ _ => (dmaxs false x r).map fun v => (v, H) | _ => none)
  | .unsafeSliceData, _, [.slice none 0 0] => some (.pointer none, H)
  | .unsafeSliceData, _, [.slice (some ⟨h, o, some _⟩) _ (c + 1)] => some (.pointer (some ⟨h, o, none⟩), H)
  | .unsafeString, pt :: _, [p, l] => dunsafeString C pt p l H
  | _, _, _ => none
def dcallFn (C : Ctx) (f : FuncId) (args : List Value) : Option DR :=
  match C.fn.get f with
  | some _ => some (.enter f args)
  | none => match C.ext f with | some g => (g args).map .val | none => none
def dmethod : List (TypeId × String × FuncId) → TypeId → String → Option FuncId
  | [], _, _ => none
  | (t', n', f) :: r, t, n => bif Nat.beq t' t && n' == n then some f else dmethod r t n
def dcall (C : Ctx) (ρ : Operand → Value) (c : Call) (H : DH) : Option (DR × DH) :=
  match c.callee with
  | .builtin b => (dbuiltin C b c.argTypes.toList (c.args.toList.map ρ) H).map fun p => (.val p.1, p.2)
  | .value f =>
    match ρ f with
    | .func (.func f) first captured => (dcallFn C f (first.toList ++ c.args.toList.map ρ ++ captured.toList)).map fun r => (r, H)
    | _ => none
  | .invoke recv name =>
    match ρ recv with
    | .iface t v => match dmethod C.mth t name with | some f => (dcallFn C f (v :: c.args.toList.map ρ)).map fun r => (r, H) | none => none
    | _ => none

/-! ### An operation -/
def okV (v : Option Value) (H : DH) : Option (DR × DH) := v.map fun v => (.val v, H)
def okVH (v : Option (Value × DH)) : Option (DR × DH) := v.map fun p => (.val p.1, p.2)
def okH (v : Option DH) : Option (DR × DH) := v.map fun H => (.skip, H)
def dop (C : Ctx) (ρ : Operand → Value) (o : Oper) (H : DH) : Option (DR × DH) :=
  match o.op with
  | .move x => some (.val (ρ x), H)
  | .assign x => some (.val (ρ x), H)
  | .pick c a b => match ρ c with | .bool t => some (.val (if t then ρ a else ρ b), H) | _ => none
  | .alloc e => match C.ty.get e with | some i => (match i.zero with | some z => okVH (some (dnew H e z.cells.toList)) | none => none) | none => none
  | .box e x => okVH (some (dnew H e (ρ x).cells.toList))
  | .build t parts => okV (dbuild C t (parts.toList.map fun p => (p.1, ρ p.2))) H
  | .buildSlice t len parts => okVH (dbuildSlice C t len (parts.toList.map fun p => (p.1, ρ p.2)) H)
  | .load t a => okV (dload C t (ρ a) H) H
  | .store t a x => okH (dstore C t (ρ a) (ρ x) H)
  | .nilCheck x => match ρ x with | .pointer (some a) => some (.val (.pointer (some a)), H) | .func (.func f) a b => some (.val (.func (.func f) a b), H) | .iface t v => some (.val (.iface t v), H) | _ => none
  | .binOp op t x y _ => okV (dbin C op t x y (ρ x) (ρ y)) H
  | .unOp op _ x => okV (dun op (ρ x)) H
  | .convert src dst x => okVH (dconvert C src dst (ρ x) H)
  | .makeInterface t x => match C.ty.get t with | some i => (if concrete i.kind then some (.val (.iface t (ρ x)), H) else none) | none => none
  | .makeFunc fn first captured => some (.val (.func fn ⟨first.toList.map ρ⟩ ⟨captured.toList.map ρ⟩), H)
  | .makeMap t none => some (.val (.map (some (2 * H.n))), H.alloc (.map []))
  | .makeSlice t l c => okVH (dmakeSlice C t (ρ l) (ρ c) H)
  | .slice t x lo hi mx => okV (dslice C t (ρ x) (lo.map ρ) (hi.map ρ) (mx.map ρ) H) H
  | .fieldAddr s x f => okV (dfieldAddr C s (ρ x) f) H
  | .field s x f => okV (dfield C s (ρ x) f) H
  | .indexAddr t x ix => okV (dindexAddr C t (ρ x) (ρ ix)) H
  | .index t x ix => okV (dindex C t (ρ x) (ρ ix)) H
  | .lookup t x k ok => okV (dlookup C t (ρ x) (ρ k) ok H) H
  | .mapUpdate t m k v => okH (dmapUpdate C t (ρ m) (ρ k) (ρ v) H)
  | .insert t m k v => okH (dmapUpdate C t (ρ m) (ρ k) (ρ v) H)
  | .range t x => okVH (drange C t (ρ x) H)
  | .next it true => okVH (dnext (ρ it) H)
  | .typeAssert x _ asserted ok => okV (dassert C (ρ x) asserted ok) H
  | .extract t ix => match ρ t with | .tuple vs => okV vs.toList[ix]? H | _ => none
  | .call c => dcall C ρ c H
  | .panic x => match ρ x with | .iface t v => some (.panic (.iface t v), H) | _ => none
  | _ => none
end
end Go.Ds
