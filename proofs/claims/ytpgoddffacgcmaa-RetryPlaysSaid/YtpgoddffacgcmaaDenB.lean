/- What one operation does to the abstract memory. Definitions alone. -/
import Derived.Test.YtpgoddffacgcmaaDenA
import Derived.WalkLawsBesides
namespace Go.Proofs.Ytpgoddffacgcmaa.Den

def szOf (P : Program) (t : TypeId) : Option Nat := (P.info? t).map (·.size)
def aggB (P : Program) (t : TypeId) : Option Bool :=
  match P.underlying t with
  | some (.struct _) | some (.array _ _) => some true
  | some _ => some false
  | none => none
def zeroOf (P : Program) (t : TypeId) : Option Value := (P.info? t).bind (·.zero)
def bytesOf' (P : Program) (t : TypeId) : Option Nat := (P.info? t).map (·.bytes)

def AV.cells : AV → List AV
  | .agg l => l
  | .val v => v.cells.toList.map .val
  | a => [a]
/-- It takes just one cell. -/
def AV.one : AV → Bool
  | .agg _ | .tup _ => false
  | .val v => v.oneCell'
  | _ => true
def ofVal : Value → AV
  | .agg cs => .agg (cs.toList.map .val)
  | v => .val v
def allVals : List AV → Option (List Value)
  | [] => some []
  | .val v :: r => (allVals r).map (v :: ·)
  | _ => none
def AV.toVal? : AV → Option Value
  | .val v => some v
  | .agg l => (allVals l).map fun vs => .agg vs.toArray
  | _ => none

/-- The value of a piece of the model that looks at nothing but the program. -/
def peek (P : Program) {α : Type} : Sem α → Option α
  | .pure a => some a
  | .program k => peek P (k P)
  | .mark _ k => peek P k
  | _ => none

theorem peek_run {P : Program} {α : Type} {s : Sem α} {a : α} (h : peek P s = some a) (w : World) : s.run P w = .ok a w := by
  induction s with
  | pure b => simp only [peek, Option.some.injEq] at h; subst h; rfl
  | program k ih => simp only [peek] at h; exact ih P h
  | mark m k ih => simp only [peek] at h; exact ih h
  | _ => simp [peek] at h

def setMany : List AV → Nat → List AV → List AV
  | row, _, [] => row
  | row, off, v :: vs => setMany (row.set off v) (off + 1) vs

abbrev Env := Operand → AV
abbrev Temps := Nat → AV
def tset (T : Temps) (i : Nat) (v : AV) : Temps := fun k => if k = i then v else T k
def tput (T : Temps) (d : Option Tmp) (v : AV) : Temps :=
  match d with
  | some i => tset T i v
  | none => T
def env (T : Temps) : Env
  | .tmp t => T t
  | .const v => .val v
  | .global g => .val (.pointer (some ⟨g, 0, none⟩))
  | .func f => .fn (.func f) [] []

/-- Numbers, truths, texts. -/
def binV (op : BinOp) (x y : Value) : Option Value :=
  match op, x, y with
  | .add, .int k a, .int k' b => if k = k' then some (.int k (k.wrap (a + b))) else none
  | .sub, .int k a, .int k' b => if k = k' then some (.int k (k.wrap (a - b))) else none
  | .mul, .int k a, .int k' b => if k = k' then some (.int k (k.wrap (a * b))) else none
  | .quo, .int k a, .int k' b => if k = k' ∧ b ≠ 0 then some (.int k (k.wrap (a.tdiv b))) else none
  | .rem, .int k a, .int k' b => if k = k' ∧ b ≠ 0 then some (.int k (a.tmod b)) else none
  | .and, .int k a, .int k' b => if k = k' then some (.int k (k.wrap ((BitVec.ofInt k.bits a &&& BitVec.ofInt k.bits b).toNat))) else none
  | .or, .int k a, .int k' b => if k = k' then some (.int k (k.wrap ((BitVec.ofInt k.bits a ||| BitVec.ofInt k.bits b).toNat))) else none
  | .xor, .int k a, .int k' b => if k = k' then some (.int k (k.wrap ((BitVec.ofInt k.bits a ^^^ BitVec.ofInt k.bits b).toNat))) else none
  | .eql, .int k a, .int k' b => if k = k' then some (.bool (a == b)) else none
  | .neq, .int k a, .int k' b => if k = k' then some (.bool (a != b)) else none
  | .lss, .int k a, .int k' b => if k = k' then some (.bool (decide (a < b))) else none
  | .leq, .int k a, .int k' b => if k = k' then some (.bool (decide (a ≤ b))) else none
  | .gtr, .int k a, .int k' b => if k = k' then some (.bool (decide (a > b))) else none
  | .geq, .int k a, .int k' b => if k = k' then some (.bool (decide (a ≥ b))) else none
  | .shl, .int k a, .int _ b => if 0 ≤ b then some (.int k (k.wrap (a * 2 ^ min b.toNat k.bits))) else none
  | .shr, .int k a, .int _ b => if 0 ≤ b then some (.int k (a.fdiv (2 ^ min b.toNat k.bits))) else none
  | .add, .string a, .string b => if ((a.size + b.size : Nat) : Int) > IntKind.i64.max then none else some (.string (a ++ b))
  | .eql, .string a, .string b => some (.bool (a.toList == b.toList))
  | .neq, .string a, .string b => some (.bool !(a.toList == b.toList))
  | .eql, .float k a, .float k' b => if k = k' then some (.bool (k.format.order a b == some .eq)) else none
  | .neq, .float k a, .float k' b => if k = k' then some (.bool (k.format.order a b != some .eq)) else none
  | .lss, .float k a, .float k' b => if k = k' then some (.bool (k.format.order a b == some .lt)) else none
  | .leq, .float k a, .float k' b => if k = k' then some (.bool (k.format.order a b == some .lt || k.format.order a b == some .eq)) else none
  | .gtr, .float k a, .float k' b => if k = k' then some (.bool (k.format.order a b == some .gt)) else none
  | .geq, .float k a, .float k' b => if k = k' then some (.bool (k.format.order a b == some .gt || k.format.order a b == some .eq)) else none
  | .add, .float k a, .float k' b => if k = k' then (floatBits .add k a b).map (.float k) else none
  | .sub, .float k a, .float k' b => if k = k' then (floatBits .sub k a b).map (.float k) else none
  | .mul, .float k a, .float k' b => if k = k' then (floatBits .mul k a b).map (.float k) else none
  | .add, .complex k a b, .complex k' c d => if k = k' then (cSumBits .add k a b c d).map fun (x, y) => .complex k x y else none
  | .eql, .complex k a b, .complex k' c d => if k = k' then some (.bool ((k.format.order a c == some .eq) && (k.format.order b d == some .eq))) else none
  | .neq, .complex k a b, .complex k' c d => if k = k' then some (.bool !((k.format.order a c == some .eq) && (k.format.order b d == some .eq))) else none
  | _, _, _ => none

def convV (P : Program) (src dst : TypeId) (x : Value) : Option Value :=
  match P.underlying src, P.underlying dst, x with
  | some _, some (.int k), .int _ n => some (.int k (k.wrap n))
  | some _, some (.float k), .int _ n => some (.float k (k.nearest n))
  | some _, some (.int k), .float s b => (floatToIntVal s b k).map (.int k)
  | some _, some .string, .string s => some (.string s)
  | _, _, _ => none

/-- Is it nil? -/
def AV.nilEq : AV → Value → Option TypeDesc → Option Bool
  | .ptr _ _, .pointer none, some (.pointer _) => some false
  | .imp _ _ _, .pointer none, some (.pointer _) => some false
  | .sl _ _ _ _, .slice none 0 0, some (.slice _) => some false
  | .im _ (_ + 1) _, .slice none 0 0, some (.slice _) => some false
  | .fn _ _ _, .nilFunc, some (.func _ _ _) => some false
  | _, _, _ => none

def aeq (P : Program) (neg : Bool) (t : TypeId) (x y : Operand) (a b : AV) : Option AV :=
  match a, b with
  | .val u, .val v =>
    match binV (if neg then .neq else .eql) u v with
    | some r => some (.val r)
    | none => (peek P (do eqGuard (if neg then .neq else .eql) t x y u v; binOp (if neg then .neq else .eql) t u v)).map .val
  | .agg _, .agg _ =>
    match a.toVal?, b.toVal? with
    | some u, some v => (peek P (do eqGuard (if neg then .neq else .eql) t x y u v; binOp (if neg then .neq else .eql) t u v)).map .val
    | _, _ => none
  | a, .val v => (a.nilEq v (P.underlying t)).map fun r => .val (.bool (r != neg))
  | _, _ => none

def fillA (place : Nat → Option (Nat × Nat)) : List AV → List (Nat × AV) → Option (List AV)
  | cells, [] => some cells
  | cells, (i, v) :: rest =>
    match place i with
    | none => none
    | some (off, size) => if v.cells.length ≠ size ∨ off + size > cells.length then none else fillA place (setMany cells off v.cells) rest

/-- Where a struct's fields lie, and how many cells each has. -/
def places (P : Program) : List Field → Option (List (Nat × Nat))
  | [] => some []
  | f :: fs => (szOf P f.type).bind fun s => (places P fs).map ((f.offset, s) :: ·)

def natOf : AV → Option Nat
  | .val (.int _ n) => if 0 ≤ n then some n.toNat else none
  | _ => none

/-- Elements that are read: how many, and their cells. -/
def srcCells (H : AHeap) (size : Nat) : AV → Option (Nat × List AV)
  | .val (.slice _ 0 _) => some (0, [])
  | .val (.string s) => if size = 1 then some (s.size, s.data.toList.map fun b => .val (.int .u8 b.toNat)) else none
  | .sl n off len sz => if sz = size then (H n).bind fun row => if off + len * size ≤ row.length then some (len, (row.drop off).take (len * size)) else none else none
  | .im _ len cells => if cells.length = len * size then some (len, cells) else none
  | _ => none

def bytesA : List AV → Option (List UInt8)
  | [] => some []
  | .val (.int .u8 n) :: r => if 0 ≤ n ∧ n < 256 then (bytesA r).map (UInt8.ofNat n.toNat :: ·) else none
  | _ => none

def isU8 : Option TypeDesc → Bool
  | some (.int .u8) => true
  | _ => false

def zeroCellsA (P : Program) (t : TypeId) : Option (List AV) := (zeroOf P t).map fun z => z.cells.toList.map .val

/-- The row of a fresh slice. -/
def rowOf (zero : List AV) : Nat → List AV
  | 0 => []
  | n + 1 => zero ++ rowOf zero n

abbrev Res := Option (AV × AHeap)

def aload (P : Program) (t : TypeId) (a : AV) (H : AHeap) : Option AV :=
  match a, aggB P t, szOf P t with
  | .ptr n off, some true, some size => (H n).bind fun row => if off + size ≤ row.length then some (.agg ((row.drop off).take size)) else none
  | .ptr n off, some false, some _ => (H n).bind fun row => row[off]?
  | .imp _ cells off, some true, some size => if off + size ≤ cells.length then some (.agg ((cells.drop off).take size)) else none
  | .imp _ cells off, some false, some _ => cells[off]?
  | _, _, _ => none

def astore (P : Program) (t : TypeId) (a x : AV) (H : AHeap) : Option AHeap :=
  match a with
  | .ptr n off =>
    if szOf P t = some x.cells.length ∧ x.cells.all AV.one then
      (H n).bind fun row => if off + x.cells.length ≤ row.length then some (upd H n (some (setMany row off x.cells))) else none
    else none
  | _ => none

def boundOf (d : Nat) : Option AV → Option Nat
  | none => some d
  | some v => natOf v

def aslice (P : Program) (t : TypeId) (x : AV) (lo hi : Option AV) (H : AHeap) : Option AV :=
  match x with
  | .val (.string s) =>
    match boundOf 0 lo, boundOf s.size hi, P.underlying t with
    | some l, some h, some .string => if l ≤ h ∧ h ≤ s.size then some (.val (.string (s.extract l h))) else none
    | _, _, _ => none
  | .val (.slice none 0 0) =>
    match boundOf 0 lo, boundOf 0 hi, P.underlying t with
    | some 0, some 0, some (.slice e) => if (szOf P e).isSome then some (.val (.slice none 0 0)) else none
    | _, _, _ => none
  | .sl n off len sz =>
    match boundOf 0 lo, boundOf len hi, P.underlying t with
    | some l, some h, some (.slice e) =>
      if szOf P e = some sz ∧ l ≤ h ∧ h ≤ len then (if l = 0 then some (.sl n off h sz) else if l = h then some (.im true 0 []) else some (.sl n (off + l * sz) (h - l) sz)) else none
    | _, _, _ => none
  | .im m len cells =>
    match boundOf 0 lo, boundOf len hi, P.underlying t with
    | some l, some h, some (.slice e) =>
      match szOf P e with
      | some sz => if l ≤ h ∧ h ≤ len ∧ cells.length = len * sz then (if l = h then some (.im m 0 []) else some (.im m (h - l) ((cells.drop (l * sz)).take ((h - l) * sz)))) else none
      | none => none
    | _, _, _ => none
  | .ptr n off =>
    match P.underlying t with
    | some (.array N e) =>
      match boundOf 0 lo, boundOf N hi, szOf P e with
      | some l, some h, some sz =>
        (H n).bind fun row => if l ≤ h ∧ h ≤ N ∧ sz ≠ 0 ∧ off + N * sz ≤ row.length then (if l = h then some (.im true 0 []) else some (.sl n (off + l * sz) (h - l) sz)) else none
      | _, _, _ => none
    | _ => none
  | _ => none

def aindexAddr (P : Program) (t : TypeId) (x i : AV) : Option AV :=
  match natOf i, x, P.underlying t with
  | some i, .sl n off len sz, some (.slice e) => if szOf P e = some sz ∧ i < len then some (.ptr n (off + i * sz)) else none
  | some i, .im m len cells, some (.slice e) => (szOf P e).bind fun sz => if i < len ∧ cells.length = len * sz then some (.imp m cells (i * sz)) else none
  | some i, .ptr n off, some (.array len e) => (szOf P e).bind fun sz => if i < len then some (.ptr n (off + i * sz)) else none
  | some i, .imp m cells off, some (.array len e) => (szOf P e).bind fun sz => if i < len then some (.imp m cells (off + i * sz)) else none
  | _, _, _ => none

def afieldAddr (P : Program) (s : TypeId) (x : AV) (f : Nat) : Option AV :=
  match P.underlying s with
  | some (.struct fs) =>
    (fs[f]?).bind fun fl => (szOf P fl.type).bind fun sz =>
      if sz = 0 then none else
      match x with
      | .ptr n off => some (.ptr n (off + fl.offset))
      | .imp m cells off => some (.imp m cells (off + fl.offset))
      | _ => none
  | _ => none

def apart (P : Program) (t : TypeId) (l : List AV) (off : Nat) : Option AV :=
  match aggB P t, szOf P t with
  | some true, some size => if off + size ≤ l.length then some (.agg ((l.drop off).take size)) else none
  | some false, some _ => l[off]?
  | _, _ => none

def aindex (P : Program) (t : TypeId) (x i : AV) : Option AV :=
  match natOf i, x, P.underlying t with
  | some i, .agg l, some (.array len e) => (szOf P e).bind fun sz => if i < len then apart P e l (i * sz) else none
  | some i, .val (.string s), some .string => (s.data[i]?).map fun b => .val (.int .u8 b.toNat)
  | _, _, _ => none

def alen (P : Program) (t : TypeId) (x : AV) : Option AV :=
  match P.underlying t, x with
  | some (.array n _), _ => some (.val (.int .i64 n))
  | some .string, .val (.string s) => some (.val (.int .i64 s.size))
  | some (.slice _), .val (.slice _ n _) => some (.val (.int .i64 n))
  | some (.slice _), .sl _ _ len _ => some (.val (.int .i64 len))
  | some (.slice _), .im _ len _ => some (.val (.int .i64 len))
  | some (.pointer p), _ =>
    match P.underlying p with
    | some (.array n _) => some (.val (.int .i64 n))
    | _ => none
  | _, _ => none

/-- May elements be read out of it? -/
def seqD : TypeDesc → Bool
  | .slice _ | .string => true
  | _ => false

def aappend (P : Program) (t xt : TypeId) (s x : AV) (nm : Name) (H : AHeap) : Res :=
  match P.underlying t, P.underlying xt with
  | some (.slice e), some d =>
    match P.info? e with
    | some i =>
      match i.zero, srcCells H i.size x with
      | some z, some (k, new) =>
        if seqD d = true ∧ z.cells.size = i.size ∧ new.all AV.one = true ∧ new.length = k * i.size then
          match s with
          | .val (.slice none 0 0) => if k = 0 then some (.val (.slice none 0 0), H) else if k * i.bytes ≤ 140737488355328 ∧ k ≤ 140737488355328 then some (.sl nm 0 k i.size, upd H nm (some new)) else none
          | .sl n off len sz =>
            (H n).bind fun row =>
              if sz = i.size ∧ off + len * sz ≤ row.length ∧ (len + k) * i.bytes ≤ 140737488355328 ∧ len + k ≤ 140737488355328 then
                some (.sl nm 0 (len + k) sz, upd (upd H n none) nm (some ((row.drop off).take (len * sz) ++ new)))
              else none
          | _ => none
        else none
      | _, _ => none
    | none => none
  | _, _ => none

def acopy (P : Program) (t : TypeId) (d x : AV) (H : AHeap) : Res :=
  match P.underlying t, d with
  | some (.slice e), .sl n off len sz =>
    match szOf P e, (H n), srcCells H sz x with
    | some s, some row, some (k, new) =>
      if s = sz ∧ new.length = k * sz ∧ new.all AV.one ∧ off + min k len * sz ≤ row.length then
        some (.val (.int .i64 (min k len : Nat)), upd H n (some (setMany row off (new.take (min k len * sz)))))
      else none
    | _, _, _ => none
  | _, _ => none

def abuiltin (P : Program) (b : Builtin) (ts : Array TypeId) (args : List AV) (nm : Name) (H : AHeap) : Res :=
  match b, args with
  | .len, [x] => (ts[0]?).bind fun t => (alen P t x).map (·, H)
  | .append, [s, x] => (ts[0]?).bind fun t => (ts[1]?).bind fun xt => aappend P t xt s x nm H
  | .copy, [d, x] => (ts[0]?).bind fun t => acopy P t d x H
  | .min, [.val (.int k x), .val (.int _ y)] => some (.val (.int k (if y < x then y else x)), H)
  | .max, [.val (.int k x), .val (.int _ y)] => some (.val (.int k (if x < y then y else x)), H)
  | .complex, [.val (.float k a), .val (.float k' b)] => if k = k' then some (.val (.complex k a b), H) else none
  | .real, [.val (.complex k a _)] => some (.val (.float k a), H)
  | .imag, [.val (.complex k _ b)] => some (.val (.float k b), H)
  | _, _ => none

abbrev CallF := FuncId → List AV → Name → AHeap → Res

def acall (call : CallF) (f : AV) (args : List AV) (nm : Name) (H : AHeap) : Res :=
  match f with
  | .fn (.func f) first captured => call f (first ++ args ++ captured) nm H
  | _ => none

/-- One operation: its value, and the memory behind it. -/
def aop (P : Program) (call : CallF) (o : Oper) (ρ : Env) (nm : Name) (H : AHeap) : Res :=
  match o.op with
  | .move x | .assign x => some (ρ x, H)
  | .pick c a b =>
    match ρ c with
    | .val (.bool t) => some (if t then ρ a else ρ b, H)
    | _ => none
  | .alloc e => (zeroCellsA P e).map fun z => (.ptr nm 0, upd H nm (some z))
  | .box _ x => some (.ptr nm 0, upd H nm (some (ρ x).cells))
  | .build t parts =>
    match zeroCellsA P t, P.underlying t with
    | some z, some (.struct fs) => (places P fs.toList).bind fun ps => (fillA (ps[·]?) z (parts.toList.map fun (i, x) => (i, ρ x))).map fun l => (.agg l, H)
    | some z, some (.array _ e) => (szOf P e).bind fun s => (fillA (fun i => some (i * s, s)) z (parts.toList.map fun (i, x) => (i, ρ x))).map fun l => (.agg l, H)
    | _, _ => none
  | .buildSlice t len parts =>
    match P.underlying t with
    | some (.slice e) =>
      match szOf P e, zeroCellsA P e with
      | some s, some z =>
        if z.length = s ∧ s ≠ 0 ∧ len * s ≤ 16777216 then
          (fillA (fun i => some (i * s, s)) (rowOf z len) (parts.toList.map fun (i, x) => (i, ρ x))).map fun l => (.sl nm 0 len s, upd H nm (some l))
        else none
      | _, _ => none
    | _ => none
  | .load t a => (aload P t (ρ a) H).map (·, H)
  | .store t a x => (astore P t (ρ a) (ρ x) H).map (.val undef, ·)
  | .nilCheck x =>
    match ρ x with
    | .ptr n off => some (.ptr n off, H)
    | .imp m c off => some (.imp m c off, H)
    | .fn (.func f) a b => some (.fn (.func f) a b, H)
    | _ => none
  | .binOp .eql t x y _ => (aeq P false t x y (ρ x) (ρ y)).map (·, H)
  | .binOp .neq t x y _ => (aeq P true t x y (ρ x) (ρ y)).map (·, H)
  | .binOp op _ x y _ =>
    match ρ x, ρ y with
    | .val u, .val v => (binV op u v).map (.val ·, H)
    | _, _ => none
  | .unOp .not _ x =>
    match ρ x with
    | .val (.bool b) => some (.val (.bool !b), H)
    | _ => none
  | .unOp .neg _ x =>
    match ρ x with
    | .val (.int k n) => some (.val (.int k (k.wrap (0 - n))), H)
    | _ => none
  | .unOp .xor _ x =>
    match ρ x with
    | .val (.int k n) => some (.val (.int k (k.wrap ((BitVec.ofInt k.bits (if k.signed then -1 else k.max) ^^^ BitVec.ofInt k.bits n).toNat))), H)
    | _ => none
  | .convert src dst x =>
    match ρ x with
    | .val (.string s) =>
      match P.underlying src, P.underlying dst with
      | some .string, some (.slice e) =>
        if isU8 (P.underlying e) then some (.sl nm 0 s.size 1, upd H nm (some (s.data.toList.map fun b => .val (.int .u8 b.toNat)))) else none
      | _, _ => (convV P src dst (.string s)).map (.val ·, H)
    | .val (.slice none _ _) =>
      match P.underlying src, P.underlying dst with
      | some (.slice e), some .string => if isU8 (P.underlying e) then some (.val (.string .empty), H) else none
      | _, _ => none
    | .val v => (convV P src dst v).map (.val ·, H)
    | x =>
      match P.underlying src, P.underlying dst with
      | some (.slice e), some .string =>
        if isU8 (P.underlying e) then (srcCells H 1 x).bind fun (_, cells) => (bytesA cells).map fun l => (.val (.string ⟨l.toArray⟩), H) else none
      | _, _ => none
  | .makeFunc fn first captured => some (.fn fn (first.toList.map ρ) (captured.toList.map ρ), H)
  | .makeSlice t l c =>
    match P.underlying t, natOf (ρ l), natOf (ρ c) with
    | some (.slice e), some l, some c =>
      match szOf P e, zeroCellsA P e, bytesOf' P e with
      | some s, some z, some by_ => if z.length = s ∧ s ≠ 0 ∧ l ≤ c ∧ c ≤ 281474976710656 ∧ by_ * c ≤ 281474976710656 then some (.sl nm 0 l s, upd H nm (some (rowOf z c))) else none
      | _, _, _ => none
    | _, _, _ => none
  | .slice t x lo hi none => (aslice P t (ρ x) (lo.map ρ) (hi.map ρ) H).map (·, H)
  | .fieldAddr s x f => (afieldAddr P s (ρ x) f).map (·, H)
  | .field t x f =>
    match P.underlying t, ρ x with
    | some (.struct fs), .agg l => (fs[f]?).bind fun fl => (apart P fl.type l fl.offset).map (·, H)
    | _, _ => none
  | .indexAddr t x i => (aindexAddr P t (ρ x) (ρ i)).map (·, H)
  | .index t x i => (aindex P t (ρ x) (ρ i)).map (·, H)
  | .extract x i =>
    match ρ x with
    | .tup l => (l[i]?).map (·, H)
    | _ => none
  | .call c =>
    match c.callee with
    | .builtin b => abuiltin P b c.argTypes (c.args.toList.map ρ) nm H
    | .value f => acall call (ρ f) (c.args.toList.map ρ) nm H
    | .invoke _ _ => none
  | _ => none

end Go.Proofs.Ytpgoddffacgcmaa.Den
