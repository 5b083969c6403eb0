/- Package code: readers of bytes. -/
import Derived.Test.YtjinjfblilacaaaGreatKWkT
import Derived.Test.YtjinjfblilacaaaGreatKDenM
import Derived.ChangeKeysEq
set_option linter.unusedVariables false
set_option linter.unusedSimpArgs false
section
set_option linter.unusedSimpArgs false
set_option linter.unusedVariables false
set_option maxRecDepth 100000
namespace Go.Proofs.YtjinjfblilacaaaGreat.Den
open Go.RowKit
attribute [local simp] runList aop abuiltin acall awanted ayielded env T0 tput tset Ran aload astore setMany upd binV aslice aindexAddr apart aindex alen acopy srcCells natOf boundOf aeq AV.nilEq convV appK fillA List.range List.range.loop onF isU8 rowOf
/-! ### bytes -/
def bs (l : List UInt8) : List AV := l.map fun b => .val (.int .u8 b.toNat)
@[simp] theorem bs_length (l : List UInt8) : (bs l).length = l.length := by simp [bs]
theorem bs_take (l : List UInt8) (n : Nat) : (bs l).take n = bs (l.take n) := by simp [bs]
theorem bs_drop (l : List UInt8) (n : Nat) : (bs l).drop n = bs (l.drop n) := by simp [bs]
theorem bs_append (l k : List UInt8) : bs l ++ bs k = bs (l ++ k) := by simp [bs]
@[simp] theorem bs_getElem (l : List UInt8) (n : Nat) (h : n < (bs l).length) : (bs l)[n] = .val (.int .u8 (l[n]'(by simpa using h)).toNat) := by simp [bs]
theorem bytesA_bs (l : List UInt8) : bytesA (bs l) = some l := by
  induction l with
  | nil => rfl
  | cons b l ih =>
    have h := b.toNat_lt
    simp only [bs, List.map_cons, bytesA] at ih ⊢
    rw [if_pos (by omega), ih]
    simp
theorem bytesA_some : ∀ {c : List AV} {l : List UInt8}, bytesA c = some l -> c = bs l
  | [], l, h => by cases h; rfl
  | a :: r, l, h => by
    unfold bytesA at h
    split at h
    · rename_i e; cases e
    · rename_i n r' e
      injection e with e1 e2
      subst e1 e2
      split at h
      · rename_i hn
        simp only [Option.map_eq_some_iff] at h
        obtain ⟨l', h1, rfl⟩ := h
        rw [bytesA_some h1]
        simp only [bs, List.map_cons]
        congr 3
        obtain ⟨m, rfl⟩ := Int.eq_ofNat_of_zero_le hn.1
        have : m % 256 = m := by omega
        simp [this]
      · cases h
    · cases h
/-- The number that bytes say, the lowest one first. -/
def le : List UInt8 -> Nat
  | [] => 0
  | b :: r => b.toNat + 256 * le r
end Go.Proofs.YtjinjfblilacaaaGreat.Den
end
section
set_option linter.unusedSimpArgs false
set_option linter.unusedVariables false
set_option maxRecDepth 100000
namespace Go.Proofs.YtjinjfblilacaaaGreat.Den
open Go.RowKit
attribute [local simp] runList aop abuiltin acall awanted ayielded env T0 tput tset Ran aload astore setMany upd binV aslice aindexAddr apart aindex alen acopy srcCells natOf boundOf aeq AV.nilEq convV appK fillA List.range List.range.loop onF isU8 rowOf
end Go.Proofs.YtjinjfblilacaaaGreat.Den
end
section
namespace Go.Proofs.YtjinjfblilacaaaGreat.Den
/-! ### a map from numbers -/
structure Nd (α β : Type) where
  v : Option α
  l : β
  r : β
def PT (α : Type) : Nat -> Type
  | 0 => Unit
  | d + 1 => Nd α (PT α d)
def PT.nil (α : Type) : (d : Nat) -> PT α d
  | 0 => ()
  | d + 1 => (⟨none, PT.nil α d, PT.nil α d⟩ : Nd α (PT α d))
/-- How a place is looked at, how it is written: made once for each place. -/
structure Ac (α β : Type) where
  g : β -> Option α
  p : β -> Option α -> β
def acc (α : Type) : (d : Nat) -> Nat -> Ac α (PT α d)
  | 0 => fun _ => ⟨fun _ => none, fun t _ => t⟩
  | d + 1 => fun n =>
    bif Nat.beq n 0 then ⟨fun t : Nd α (PT α d) => t.v, fun (t : Nd α (PT α d)) a => Nd.casesOn (motive := fun _ => Option α -> Nd α (PT α d)) t (fun _ l r a => ⟨a, l, r⟩) a⟩
    else bif Nat.beq (Nat.mod n 2) 1 then ⟨fun t : Nd α (PT α d) => (acc α d (Nat.div n 2)).g t.l, fun (t : Nd α (PT α d)) a => Nd.casesOn (motive := fun _ => Option α -> Nd α (PT α d)) t (fun v l r a => ⟨v, (acc α d (Nat.div n 2)).p l a, r⟩) a⟩
    else ⟨fun t : Nd α (PT α d) => (acc α d (Nat.sub (Nat.div n 2) 1)).g t.r, fun (t : Nd α (PT α d)) a => Nd.casesOn (motive := fun _ => Option α -> Nd α (PT α d)) t (fun v l r a => ⟨v, l, (acc α d (Nat.sub (Nat.div n 2) 1)).p r a⟩) a⟩
def Tr (α : Type) : Type := PT α 60
def Tr.nil {α : Type} : Tr α := PT.nil α 60
def Tr.get {α : Type} (t : Tr α) (n : Nat) : Option α := (acc α 60 n).g t
def Tr.put {α : Type} (t : Tr α) (n : Nat) (a : α) : Tr α := (acc α 60 n).p t (some a)
def Tr.del {α : Type} (t : Tr α) (n : Nat) : Tr α := (acc α 60 n).p t none
/-! ### whole numbers, with some unknown -/
inductive IE where
  | lit (n : Int)
  | var (i : Nat)
  | byte (i : Nat)
  | bin (op : BinOp) (k : IntKind) (a b : IE)
  | wrap (k : IntKind) (a : IE)
  | fn (f : Nat) (args : List IE) (i : Nat)
inductive SV where
  | int (k : IntKind) (e : IE)
  | bool (b : Bool)
  | str (l : List IE)
  | val (v : Value)
  | ptr (n off : Nat)
  | imp (m : Bool) (cells : List SV) (off : Nat)
  | sl (n off len sz : Nat)
  | im (m : Bool) (len : Nat) (cells : List SV)
  | agg (cells : List SV)
  | tup (vs : List SV)
  | fn (f : Fn) (first captured : List SV)
instance : Inhabited SV := ⟨.val (.tuple #[])⟩
structure Mem where
  next : Nat
  m : Tr (List SV)
def Mem.get (h : Mem) (n : Nat) : Option (List SV) := h.m.get n
def Mem.push (h : Mem) (row : List SV) : Mem := ⟨h.next + 1, h.m.put h.next row⟩
def Mem.set (h : Mem) (n : Nat) (row : List SV) : Mem := ⟨h.next, h.m.put n row⟩
def Mem.drop (h : Mem) (n : Nat) : Mem := ⟨h.next, h.m.del n⟩
/-! ### numbers are forced, so that no long terms come to be -/
def forceN {α : Type} (n : Nat) (k : Nat -> α) : α :=
  match Nat.add n 1 with
  | 0 => k 0
  | m + 1 => k m
def forceI {α : Type} (n : Int) (k : Int -> α) : α :=
  match n with
  | .ofNat n => forceN n fun n => k (.ofNat n)
  | .negSucc n => forceN n fun n => k (.negSucc n)
theorem forceN_eq {α : Type} (n : Nat) (k : Nat -> α) : forceN n k = k n := rfl
theorem forceI_eq {α : Type} (n : Int) (k : Int -> α) : forceI n k = k n := by cases n <;> simp [forceI, forceN_eq]
def arI (op : BinOp) (k : IntKind) (x y : Int) : Option Int :=
  match op with
  | .add => some (k.wrap (x + y))
  | .sub => some (k.wrap (x - y))
  | .mul => some (k.wrap (x * y))
  | .quo => if y ≠ 0 then some (k.wrap (x.tdiv y)) else none
  | .rem => if y ≠ 0 then some (x.tmod y) else none
  | .and => some (k.wrap ((BitVec.ofInt k.bits x &&& BitVec.ofInt k.bits y).toNat))
  | .or => some (k.wrap ((BitVec.ofInt k.bits x ||| BitVec.ofInt k.bits y).toNat))
  | .xor => some (k.wrap ((BitVec.ofInt k.bits x ^^^ BitVec.ofInt k.bits y).toNat))
  | .shl => if 0 <= y then some (k.wrap (x * 2 ^ min y.toNat k.bits)) else none
  | .shr => if 0 <= y then some (x.fdiv (2 ^ min y.toNat k.bits)) else none
  | _ => none
def cmpI (op : BinOp) (x y : Int) : Option Bool :=
  match op with
  | .eql => some (x == y)
  | .neq => some (x != y)
  | .lss => some (decide (x < y))
  | .leq => some (decide (x <= y))
  | .gtr => some (decide (x > y))
  | .geq => some (decide (x ≥ y))
  | _ => none
def isSh : BinOp -> Bool
  | .shl | .shr => true
  | _ => false
mutual
def IE.beq : IE -> IE -> Bool
  | .lit a, .lit b => decide (a = b)
  | .var i, .var j => Nat.beq i j
  | .byte i, .byte j => Nat.beq i j
  | .bin op k a b, .bin op' k' a' b' => decide (op = op') && decide (k = k') && IE.beq a a' && IE.beq b b'
  | .wrap k a, .wrap k' a' => decide (k = k') && IE.beq a a'
  | .fn f l i, .fn f' l' i' => Nat.beq f f' && Nat.beq i i' && IE.beqs l l'
  | _, _ => false
def IE.beqs : List IE -> List IE -> Bool
  | [], [] => true
  | a :: l, b :: r => IE.beq a b && IE.beqs l r
  | _, _ => false
end
/-- What is known: of two numbers, how a comparison ends. -/
structure Fact where
  op : BinOp
  a : IE
  b : IE
  r : Bool
def lookF (Γ : List Fact) (op : BinOp) (a b : IE) : Option Bool :=
  match Γ with
  | [] => none
  | x :: r => bif decide (x.op = op) && IE.beq x.a a && IE.beq x.b b then some x.r else lookF r op a b
def cmpE (Γ : List Fact) (op : BinOp) (a b : IE) : Option Bool :=
  match a, b with
  | .lit x, .lit y => cmpI op x y
  | a, b =>
    match lookF Γ op a b with
    | some r => some r
    | none => bif IE.beq a b then (match op with
      | .eql | .leq | .geq => some true
      | .neq | .lss | .gtr => some false
      | _ => none) else none
/-- Is it a byte, whatever is unknown? -/
def IE.isByte : IE -> Bool
  | .lit n => decide (0 <= n) && decide (n < 256)
  | .byte _ => true
  | .wrap .u8 _ => true
  | .fn _ _ _ => true
  | _ => false
def wrapE (k : IntKind) (a : IE) : IE :=
  match a with
  | .lit x => forceI (k.wrap x) fun z => .lit z
  | a => bif a.isByte && (match k with | .i64 | .u64 | .u8 | .u32 | .i32 => true | _ => false) then a else .wrap k a
def binE (op : BinOp) (k : IntKind) (a b : IE) : Option IE :=
  match a, b with
  | .lit x, .lit y =>
    match arI op k x y with
    | some z => some (forceI z fun z => .lit z)
    | none => none
  | a, .lit y =>
    match op with
    | .add | .sub | .mul | .and | .or | .xor => some (.bin op k a (.lit y))
    | .quo | .rem => bif decide (y = 0) then none else some (.bin op k a (.lit y))
    | .shl | .shr => bif decide (0 <= y) then some (.bin op k a (.lit y)) else none
    | _ => none
  | a, b =>
    match op with
    | .add | .sub | .mul | .and | .or | .xor => some (.bin op k a b)
    | _ => none
/-! ### values -/
def ofConst : Value -> SV
  | .int k n => .int k (.lit n)
  | .bool b => .bool b
  | .string s => .str (s.data.toList.map fun b => .lit b.toNat)
  | v => .val v
def SV.cells : SV -> List SV
  | .agg l => l
  | .val v => v.cells.toList.map ofConst
  | a => [a]
def SV.one : SV -> Bool
  | .agg _ | .tup _ => false
  | .val v => v.oneCell'
  | _ => true
def sNat : SV -> Option Nat
  | .int _ (.lit n) => match n with
    | .ofNat n => some n
    | .negSucc _ => none
  | _ => none
def vBeq : Value -> Value -> Bool
  | .pointer none, .pointer none => true
  | .slice none a b, .slice none c d => Nat.beq a c && Nat.beq b d
  | .tuple ⟨[]⟩, .tuple ⟨[]⟩ => true
  | .float k a, .float k' b => decide (k = k') && decide (a = b)
  | .complex k a b, .complex k' c d => decide (k = k') && decide (a = c) && decide (b = d)
  | .nilFunc, .nilFunc => true
  | _, _ => false
mutual
def SV.beq : SV -> SV -> Bool
  | .int k a, .int k' b => decide (k = k') && IE.beq a b
  | .bool a, .bool b => a == b
  | .str a, .str b => IE.beqs a b
  | .val a, .val b => vBeq a b
  | .ptr n o, .ptr n' o' => Nat.beq n n' && Nat.beq o o'
  | .imp m c o, .imp m' c' o' => (m == m') && Nat.beq o o' && SV.beqs c c'
  | .sl a b c d, .sl a' b' c' d' => Nat.beq a a' && Nat.beq b b' && Nat.beq c c' && Nat.beq d d'
  | .im m l c, .im m' l' c' => (m == m') && Nat.beq l l' && SV.beqs c c'
  | .agg a, .agg b => SV.beqs a b
  | .tup a, .tup b => SV.beqs a b
  | .fn f a b, .fn f' a' b' => (match f, f' with | .func i, .func j => Nat.beq i j | _, _ => false) && SV.beqs a a' && SV.beqs b b'
  | _, _ => false
def SV.beqs : List SV -> List SV -> Bool
  | [], [] => true
  | a :: l, b :: r => SV.beq a b && SV.beqs l r
  | _, _ => false
end
/-! ### pieces of rows -/
def sset (off : Nat) (vs row : List SV) : Option (List SV) :=
  match off with
  | 0 => ins vs row
  | n + 1 =>
    match row with
    | [] => none
    | x :: r => (sset n vs r).map (x :: ·)
where ins : List SV -> List SV -> Option (List SV)
  | [], r => some r
  | v :: vs, _ :: r => (ins vs r).map (v :: ·)
  | _ :: _, [] => none
/-- Just so many cells from a place on. -/
def scut (n : Nat) (l : List SV) : Option (List SV) :=
  match n with
  | 0 => some []
  | n + 1 =>
    match l with
    | [] => none
    | x :: r => (scut n r).map (x :: ·)
def sdrop (n : Nat) (l : List SV) : Option (List SV) :=
  match n with
  | 0 => some l
  | n + 1 =>
    match l with
    | [] => none
    | _ :: r => sdrop n r
def sseg (off n : Nat) (l : List SV) : Option (List SV) := (sdrop off l).bind (scut n)
abbrev SEnv := Operand -> SV
def senv (T : Tr SV) : SEnv
  | .tmp t => (T.get t).getD (.val undef)
  | .const v => ofConst v
  | .global g => .val (.pointer (some ⟨g, 0, none⟩))
  | .func f => .fn (.func f) [] []
def sload (P : Program) (t : TypeId) (a : SV) (h : Mem) : Option SV :=
  match a, aggB P t, szOf P t with
  | .ptr n off, some true, some size => (h.get n).bind fun row => (sseg off size row).map .agg
  | .ptr n off, some false, some _ => (h.get n).bind fun row => row[off]?
  | .imp _ cells off, some true, some size => (sseg off size cells).map .agg
  | .imp _ cells off, some false, some _ => cells[off]?
  | _, _, _ => none
def sstore (P : Program) (t : TypeId) (a x : SV) (h : Mem) : Option Mem :=
  match a with
  | .ptr n off =>
    bif decide (szOf P t = some x.cells.length) && x.cells.all SV.one then
      (h.get n).bind fun row => (sset off x.cells row).map fun row' => h.set n row'
    else none
  | _ => none
def sbound (d : Nat) : Option SV -> Option Nat
  | none => some d
  | some v => sNat v
def sslice (P : Program) (t : TypeId) (x : SV) (lo hi : Option SV) : Option SV :=
  match x with
  | .str s =>
    match sbound 0 lo, sbound s.length hi, P.underlying t with
    | some l, some h, some .string => bif Nat.ble l h && Nat.ble h s.length then some (.str ((s.drop l).take (h - l))) else none
    | _, _, _ => none
  | .val (.slice none 0 0) =>
    match sbound 0 lo, sbound 0 hi, P.underlying t with
    | some 0, some 0, some (.slice e) => bif (szOf P e).isSome then some (.val (.slice none 0 0)) else none
    | _, _, _ => none
  | .sl n off len sz =>
    match sbound 0 lo, sbound len hi, P.underlying t with
    | some l, some h, some (.slice e) =>
      bif decide (szOf P e = some sz) && Nat.ble l h && Nat.ble h len then (bif Nat.beq l 0 then some (.sl n off h sz) else bif Nat.beq l h then some (.im true 0 []) else forceN (off + l * sz) fun o => forceN (h - l) fun k => some (.sl n o k sz)) else none
    | _, _, _ => none
  | .im m len cells =>
    match sbound 0 lo, sbound len hi, P.underlying t with
    | some l, some h, some (.slice e) =>
      match szOf P e with
      | some sz => bif Nat.ble l h && Nat.ble h len && Nat.beq cells.length (len * sz) then (bif Nat.beq l h then some (.im m 0 []) else forceN (h - l) fun k => some (.im m k ((cells.drop (l * sz)).take ((h - l) * sz)))) else none
      | none => none
    | _, _, _ => none
  | _ => none
def sindexAddr (P : Program) (t : TypeId) (x i : SV) : Option SV :=
  match sNat i, x, P.underlying t with
  | some i, .sl n off len sz, some (.slice e) => bif decide (szOf P e = some sz) && Nat.blt i len then forceN (off + i * sz) fun o => some (.ptr n o) else none
  | some i, .im m len cells, some (.slice e) => (szOf P e).bind fun sz => bif Nat.blt i len && Nat.beq cells.length (len * sz) then forceN (i * sz) fun o => some (.imp m cells o) else none
  | some i, .ptr n off, some (.array len e) => (szOf P e).bind fun sz => bif Nat.blt i len then forceN (off + i * sz) fun o => some (.ptr n o) else none
  | some i, .imp m cells off, some (.array len e) => (szOf P e).bind fun sz => bif Nat.blt i len then forceN (off + i * sz) fun o => some (.imp m cells o) else none
  | _, _, _ => none
def sfieldAddr (P : Program) (s : TypeId) (x : SV) (f : Nat) : Option SV :=
  match P.underlying s with
  | some (.struct fs) =>
    (fs[f]?).bind fun fl => (szOf P fl.type).bind fun sz =>
      bif Nat.beq sz 0 then none else
      match x with
      | .ptr n off => forceN (off + fl.offset) fun o => some (.ptr n o)
      | .imp m cells off => forceN (off + fl.offset) fun o => some (.imp m cells o)
      | _ => none
  | _ => none
def spart (P : Program) (t : TypeId) (l : List SV) (off : Nat) : Option SV :=
  match aggB P t, szOf P t with
  | some true, some size => (sseg off size l).map .agg
  | some false, some _ => l[off]?
  | _, _ => none
def sindex (P : Program) (t : TypeId) (x i : SV) : Option SV :=
  match sNat i, x, P.underlying t with
  | some i, .agg l, some (.array len e) => (szOf P e).bind fun sz => bif Nat.blt i len then spart P e l (i * sz) else none
  | some i, .str s, some .string => (s[i]?).bind fun b => bif b.isByte then some (.int .u8 b) else none
  | _, _, _ => none
def slen (P : Program) (t : TypeId) (x : SV) : Option SV :=
  match P.underlying t, x with
  | some (.array n _), _ => some (.int .i64 (.lit n))
  | some .string, .str s => forceN s.length fun n => some (.int .i64 (.lit n))
  | some (.slice _), .val (.slice _ n _) => some (.int .i64 (.lit n))
  | some (.slice _), .sl _ _ len _ => some (.int .i64 (.lit len))
  | some (.slice _), .im _ len _ => some (.int .i64 (.lit len))
  | some (.pointer p), _ =>
    match P.underlying p with
    | some (.array n _) => some (.int .i64 (.lit n))
    | _ => none
  | _, _ => none
def ssrc (h : Mem) (size : Nat) : SV -> Option (Nat × List SV)
  | .val (.slice _ 0 _) => some (0, [])
  | .str s => bif Nat.beq size 1 && s.all IE.isByte then some (s.length, s.map fun b => .int .u8 b) else none
  | .sl n off len sz => bif Nat.beq sz size then (h.get n).bind fun row => (sseg off (len * size) row).map fun l => (len, l) else none
  | .im _ len cells => bif Nat.beq cells.length (len * size) then some (len, cells) else none
  | _ => none
def sappend (P : Program) (t xt : TypeId) (s x : SV) (h : Mem) : Option (SV × Mem) :=
  match P.underlying t, P.underlying xt with
  | some (.slice e), some d =>
    match P.info? e with
    | some i =>
      match i.zero, ssrc h i.size x with
      | some z, some (k, new) =>
        bif seqD d && Nat.beq z.cells.size i.size && new.all SV.one && Nat.beq new.length (k * i.size) then
          match s with
          | .val (.slice none 0 0) => bif Nat.beq k 0 then some (.val (.slice none 0 0), h) else bif Nat.ble (k * i.bytes) 140737488355328 && Nat.ble k 140737488355328 then forceN k fun k => some (.sl h.next 0 k i.size, h.push new) else none
          | .sl n off len sz =>
            (h.get n).bind fun row => (sseg off (len * sz) row).bind fun old =>
              bif Nat.beq sz i.size && Nat.ble ((len + k) * i.bytes) 140737488355328 && Nat.ble (len + k) 140737488355328 then
                forceN (len + k) fun nk => some (.sl h.next 0 nk sz, (h.drop n).push (old ++ new))
              else none
          | .im m len cells => bif Nat.beq k 0 then some (.im m len cells, h) else none
          | _ => none
        else none
      | _, _ => none
    | none => none
  | _, _ => none
def scopy (P : Program) (t : TypeId) (d x : SV) (h : Mem) : Option (SV × Mem) :=
  match P.underlying t, d with
  | some (.slice e), .sl n off len sz =>
    match szOf P e, h.get n, ssrc h sz x with
    | some s, some row, some (k, new) =>
      bif Nat.beq s sz && Nat.beq new.length (k * sz) && new.all SV.one then
        (sset off (new.take (min k len * sz)) row).map fun row' => (.int .i64 (.lit (min k len : Nat)), h.set n row')
      else none
    | _, _, _ => none
  | _, _ => none
/-- How two floats, or parts of complex numbers, stand. -/
def sbinV (op : BinOp) (u v : Value) : Option SV := (binV op u v).map ofConst
def sbin (Γ : List Fact) (op : BinOp) (a b : SV) : Option SV :=
  match a, b with
  | .int k x, .int k' y =>
    bif isSh op || decide (k = k') then
      match op with
      | .eql | .neq | .lss | .leq | .gtr | .geq => (cmpE Γ op x y).map .bool
      | _ => (binE op k x y).map (.int k)
    else none
  | .str x, .str y =>
    match op with
    | .add => bif Nat.ble (x.length + y.length) 140737488355328 then some (.str (x ++ y)) else none
    | _ => none
  | .val u, .val v => sbinV op u v
  | _, _ => none
/-- Two lists of numbers: the same, for certain, or not. -/
def eqEs (Γ : List Fact) : List IE -> List IE -> Option Bool
  | [], [] => some true
  | [], _ :: _ => some false
  | _ :: _, [] => some false
  | a :: l, b :: r =>
    match cmpE Γ .eql a b with
    | some true => eqEs Γ l r
    | some false => some false
    | none => none
def SV.nilEq : SV -> Value -> Option TypeDesc -> Option Bool
  | .ptr _ _, .pointer none, some (.pointer _) => some false
  | .imp _ _ _, .pointer none, some (.pointer _) => some false
  | .sl _ _ _ _, .slice none 0 0, some (.slice _) => some false
  | .im _ (_ + 1) _, .slice none 0 0, some (.slice _) => some false
  | .fn _ _ _, .nilFunc, some (.func _ _ _) => some false
  | _, _, _ => none
end Go.Proofs.YtjinjfblilacaaaGreat.Den
end
section
namespace Go.Proofs.YtjinjfblilacaaaGreat.Den
abbrev SRes := Option (SV × Mem)
abbrev SCall := FuncId -> List SV -> Mem -> SRes
def litStr : List IE -> Option (List UInt8)
  | [] => some []
  | .lit n :: r => bif decide (0 <= n) && decide (n < 256) then (litStr r).map (UInt8.ofNat n.toNat :: ·) else none
  | _ => none
def litCells : List SV -> Option (List Value)
  | [] => some []
  | .int k (.lit n) :: r => (litCells r).map (.int k n :: ·)
  | .bool b :: r => (litCells r).map (.bool b :: ·)
  | .str l :: r => (litStr l).bind fun s => (litCells r).map (.string ⟨s.toArray⟩ :: ·)
  | .val v :: r => (litCells r).map (v :: ·)
  | _ => none
def SV.toVal? : SV -> Option Value
  | .int k (.lit n) => some (.int k n)
  | .bool b => some (.bool b)
  | .str l => (litStr l).map fun s => .string ⟨s.toArray⟩
  | .val v => some v
  | .agg l => (litCells l).map fun vs => .agg vs.toArray
  | _ => none
def sbytes : List SV -> Option (List IE)
  | [] => some []
  | .int .u8 e :: r => bif e.isByte then (sbytes r).map (e :: ·) else none
  | _ => none
/-- An array of so many bytes. -/
def u8arr (P : Program) (t : TypeId) (n : Nat) : Bool :=
  match P.underlying t with
  | some (.array m e) => Nat.beq m n && isU8 (P.underlying e) && (match szOf P e with | some k => Nat.beq k 1 | none => false) && !P.eqGuardType P.depth t
  | _ => false
def seq (Γ : List Fact) (P : Program) (neg : Bool) (t : TypeId) (x y : Operand) (a b : SV) : Option SV :=
  match a, b with
  | .int k u, .int k' v => bif decide (k = k') then (cmpE Γ (bif neg then .neq else .eql) u v).map .bool else none
  | .str u, .str v => bif u.all IE.isByte && v.all IE.isByte then (eqEs Γ u v).map fun r => .bool (r != neg) else none
  | .bool u, .bool v => (peek P (do eqGuard (if neg then .neq else .eql) t x y (.bool u) (.bool v); binOp (if neg then .neq else .eql) t (.bool u) (.bool v))).map ofConst
  | .val u, .val v =>
    match binV (if neg then .neq else .eql) u v with
    | some r => some (ofConst r)
    | none => (peek P (do eqGuard (if neg then .neq else .eql) t x y u v; binOp (if neg then .neq else .eql) t u v)).map ofConst
  | .agg l, .agg l' =>
    match a.toVal?, b.toVal? with
    | some u, some v => (peek P (do eqGuard (if neg then .neq else .eql) t x y u v; binOp (if neg then .neq else .eql) t u v)).map ofConst
    | _, _ => bif u8arr P t l.length && Nat.beq l.length l'.length then (match sbytes l, sbytes l' with
      | some u, some v => (eqEs Γ u v).map fun r => .bool (r != neg)
      | _, _ => none) else none
  | a, .val v => (a.nilEq v (P.underlying t)).map fun r => .bool (r != neg)
  | _, _ => none
def sfill (place : Nat -> Option (Nat × Nat)) : List SV -> List (Nat × SV) -> Option (List SV)
  | cells, [] => some cells
  | cells, (i, v) :: rest =>
    match place i with
    | none => none
    | some (off, size) => bif Nat.beq v.cells.length size then (sset off v.cells cells).bind fun c => sfill place c rest else none
def szeros (P : Program) (t : TypeId) : Option (List SV) := (zeroOf P t).map fun z => z.cells.toList.map ofConst
def srow (zero : List SV) : Nat -> List SV
  | 0 => []
  | n + 1 => zero ++ srow zero n
def sbuiltin (P : Program) (b : Builtin) (ts : Array TypeId) (args : List SV) (h : Mem) : SRes :=
  match b, args with
  | .len, [x] => (ts[0]?).bind fun t => (slen P t x).map (·, h)
  | .append, [s, x] => (ts[0]?).bind fun t => (ts[1]?).bind fun xt => sappend P t xt s x h
  | .copy, [d, x] => (ts[0]?).bind fun t => scopy P t d x h
  | .min, [.int k (.lit x), .int _ (.lit y)] => some (.int k (.lit (bif decide (y < x) then y else x)), h)
  | .max, [.int k (.lit x), .int _ (.lit y)] => some (.int k (.lit (bif decide (x < y) then y else x)), h)
  | .complex, [.val (.float k a), .val (.float k' b)] => bif decide (k = k') then some (.val (.complex k a b), h) else none
  | .real, [.val (.complex k a _)] => some (.val (.float k a), h)
  | .imag, [.val (.complex k _ b)] => some (.val (.float k b), h)
  | _, _ => none
def sconv (P : Program) (src dst : TypeId) (x : SV) (h : Mem) : SRes :=
  match x with
  | .str s =>
    match P.underlying src, P.underlying dst with
    | some .string, some (.slice e) => bif isU8 (P.underlying e) && s.all IE.isByte then some (.im true s.length (s.map fun b => .int .u8 b), h) else none
    | some .string, some .string => some (.str s, h)
    | _, _ => none
  | .int k e =>
    match P.underlying src, P.underlying dst with
    | some _, some (.int k') => some (.int k' (wrapE k' e), h)
    | some _, some (.float _) =>
      match e with
      | .lit n => (convV P src dst (.int k n)).map fun v => (ofConst v, h)
      | _ => none
    | _, _ => none
  | .val (.slice none _ _) =>
    match P.underlying src, P.underlying dst with
    | some (.slice e), some .string => bif isU8 (P.underlying e) then some (.str [], h) else none
    | _, _ => none
  | .val (.float k b) => (convV P src dst (.float k b)).map fun v => (ofConst v, h)
  | .sl n off len sz =>
    match P.underlying src, P.underlying dst with
    | some (.slice e), some .string => bif isU8 (P.underlying e) then (ssrc h 1 (.sl n off len sz)).bind fun (_, cells) => (sbytes cells).map fun l => (.str l, h) else none
    | some (.slice _), some (.slice e) => bif decide (src = dst) && isU8 (P.underlying e) then (h.get n).bind fun row => (sseg off (len * sz) row).map fun l => (.im true len l, h.drop n) else none
    | _, _ => none
  | .im m len c =>
    match P.underlying src, P.underlying dst with
    | some (.slice e), some .string => bif isU8 (P.underlying e) then (ssrc h 1 (.im m len c)).bind fun (_, cells) => (sbytes cells).map fun l => (.str l, h) else none
    | _, _ => none
  | _ => none
def sop (Γ : List Fact) (P : Program) (call : SCall) (o : Oper) (ρ : SEnv) (h : Mem) : SRes :=
  match o.op with
  | .move x | .assign x => some (ρ x, h)
  | .pick c a b =>
    match ρ c with
    | .bool t => some (bif t then ρ a else ρ b, h)
    | _ => none
  | .alloc e => (szeros P e).map fun z => (.ptr h.next 0, h.push z)
  | .box _ x => some (.ptr h.next 0, h.push (ρ x).cells)
  | .build t parts =>
    match szeros P t, P.underlying t with
    | some z, some (.struct fs) => (places P fs.toList).bind fun ps => (sfill (ps[·]?) z (parts.toList.map fun (i, x) => (i, ρ x))).map fun l => (.agg l, h)
    | some z, some (.array _ e) => (szOf P e).bind fun s => (sfill (fun i => some (i * s, s)) z (parts.toList.map fun (i, x) => (i, ρ x))).map fun l => (.agg l, h)
    | _, _ => none
  | .buildSlice t len parts =>
    match P.underlying t with
    | some (.slice e) =>
      match szOf P e, szeros P e with
      | some s, some z =>
        bif Nat.beq z.length s && !Nat.beq s 0 && Nat.ble (len * s) 16777216 then
          (sfill (fun i => some (i * s, s)) (srow z len) (parts.toList.map fun (i, x) => (i, ρ x))).map fun l => (.sl h.next 0 len s, h.push l)
        else none
      | _, _ => none
    | _ => none
  | .load t a => (sload P t (ρ a) h).map (·, h)
  | .store t a x => (sstore P t (ρ a) (ρ x) h).map (.val undef, ·)
  | .nilCheck x =>
    match ρ x with
    | .ptr n off => some (.ptr n off, h)
    | .imp m c off => some (.imp m c off, h)
    | .fn (.func f) a b => some (.fn (.func f) a b, h)
    | _ => none
  | .binOp .eql t x y _ => (seq Γ P false t x y (ρ x) (ρ y)).map (·, h)
  | .binOp .neq t x y _ => (seq Γ P true t x y (ρ x) (ρ y)).map (·, h)
  | .binOp op _ x y _ => (sbin Γ op (ρ x) (ρ y)).map (·, h)
  | .unOp .not _ x =>
    match ρ x with
    | .bool b => some (.bool !b, h)
    | _ => none
  | .unOp .neg _ x =>
    match ρ x with
    | .int k (.lit n) => forceI (k.wrap (0 - n)) fun z => some (.int k (.lit z), h)
    | _ => none
  | .unOp .xor _ x =>
    match ρ x with
    | .int k (.lit n) => forceI (k.wrap ((BitVec.ofInt k.bits (if k.signed then -1 else k.max) ^^^ BitVec.ofInt k.bits n).toNat)) fun z => some (.int k (.lit z), h)
    | .int k e => some (.int k (.bin .xor k (.lit (if k.signed then -1 else k.max)) e), h)
    | _ => none
  | .convert src dst x => sconv P src dst (ρ x) h
  | .makeFunc fn first captured => some (.fn fn (first.toList.map ρ) (captured.toList.map ρ), h)
  | .makeSlice t l c =>
    match P.underlying t, sNat (ρ l), sNat (ρ c) with
    | some (.slice e), some l, some c =>
      match szOf P e, szeros P e, bytesOf' P e with
      | some s, some z, some by_ => bif Nat.beq z.length s && !Nat.beq s 0 && Nat.ble l c && Nat.ble c 281474976710656 && Nat.ble (by_ * c) 281474976710656 then some (.sl h.next 0 l s, h.push (srow z c)) else none
      | _, _, _ => none
    | _, _, _ => none
  | .slice t x lo hi none =>
    match ρ x with
    | .ptr n off =>
      match P.underlying t with
      | some (.array N e) =>
        match sbound 0 (lo.map ρ), sbound N (hi.map ρ), szOf P e with
        | some l, some k, some sz =>
          (h.get n).bind fun row => (sdrop (off + N * sz) row).bind fun _ => bif Nat.ble l k && Nat.ble k N && !Nat.beq sz 0 then (bif Nat.beq l k then some (.im true 0 [], h) else some (.sl n (off + l * sz) (k - l) sz, h)) else none
        | _, _, _ => none
      | _ => none
    | x => (sslice P t x (lo.map ρ) (hi.map ρ)).map (·, h)
  | .fieldAddr s x f => (sfieldAddr P s (ρ x) f).map (·, h)
  | .field t x f =>
    match P.underlying t, ρ x with
    | some (.struct fs), .agg l => (fs[f]?).bind fun fl => (spart P fl.type l fl.offset).map (·, h)
    | _, _ => none
  | .indexAddr t x i => (sindexAddr P t (ρ x) (ρ i)).map (·, h)
  | .index t x i => (sindex P t (ρ x) (ρ i)).map (·, h)
  | .extract x i =>
    match ρ x with
    | .tup l => (l[i]?).map (·, h)
    | _ => none
  | .call c =>
    match c.callee with
    | .builtin b => sbuiltin P b c.argTypes (c.args.toList.map ρ) h
    | .value f =>
      match ρ f with
      | .fn (.func f) first captured => call f (first ++ c.args.toList.map ρ ++ captured) h
      | _ => none
    | .invoke _ _ => none
  | _ => none
/-! ### regions -/
def sput (T : Tr SV) (d : Option Tmp) (v : SV) : Tr SV :=
  match d with
  | some i => T.put i v
  | none => T
/-- Is an operation done? (none: that is not known) -/
def swanted (ops : Array Oper) (o : Oper) (T : Tr SV) : Option Bool :=
  match o.guard with
  | none => some true
  | some (j, want) =>
    match (ops[j]?).bind (·.dst) with
    | some d =>
      match (T.get d).getD (.val undef) with
      | .bool b => some (b == want)
      | .val (.tuple _) => some false
      | _ => none
    | none => some false
/-- What is put off till the end: functions, each with its arguments; the last one first. -/
abbrev SLate := List (SV × List SV)
def sregion (Γ : List Fact) (P : Program) (call : SCall) (ops : Array Oper) : List Oper -> Tr SV -> Mem -> SLate -> Option (Tr SV × Mem × SLate)
  | [], T, h, D => some (T, h, D)
  | o :: r, T, h, D =>
    match o.op with
    | .defer c =>
      match c.callee, o.guard, o.dst with
      | .value f, none, none =>
        match senv T f with
        | .fn fn a b => sregion Γ P call ops r T h ((.fn fn a b, c.args.toList.map (senv T)) :: D)
        | _ => none
      | _, _, _ => none
    | _ =>
      match swanted ops o T with
      | some true =>
        match sop Γ P call o (senv T) h with
        | some (v, h') => sregion Γ P call ops r (sput T o.dst v) h' D
        | none => none
      | some false => sregion Γ P call ops r (sput T o.dst (.val undef)) h D
      | none => none
/-- An order for a region whose order is open. -/
def planOrder (ops : Array Oper) (ms : List Nat) : List Nat :=
  let n := ops.size
  let put (l : List Nat) (i : Nat) : List Nat := ((List.range n).filter fun j => (ms.getD i 0).testBit j && !l.contains j).foldl (fun l j => l ++ [j]) l
  let add (l : List Nat) (i : Nat) : List Nat := let l := put l i; if l.contains i then l else l ++ [i]
  let l := ((List.range n).filter fun i => isEAt ops i).foldl add []
  (List.range n).foldl add l
def planItems (ops : Array Oper) (ms : List Nat) : Nat -> List (Nat × Nat) -> List Nat -> List Item
  | _, _, [] => []
  | k, es, i :: r =>
    let e := isEAt ops i
    let look := match ops[i]? with | some o => !e && mayLook o | none => false
    let lo := es.foldl (fun m (p, j) => if (ms.getD i 0).testBit j then p else m) 0
    let chk := if look then ((0, 0) :: es).map (·.1) |>.filter (lo <= ·) else []
    ⟨i, e, chk⟩ :: planItems ops ms (k + 1) (if e then es ++ [(k + 1, i)] else es) r
def planMasks (ops : Array Oper) : List Nat := ops.toList.foldl (fun ms o => ms ++ [maskOf ms o]) []
def mkPlan (ops : Array Oper) : List Nat × List Item :=
  let ms := planMasks ops
  (ms, planItems ops ms 0 [] (planOrder ops ms))
/-- May it float past what acts, whatever the memory? -/
def noLook (o : Oper) (ρ : SEnv) : Bool :=
  match o.op with
  | .convert s d x =>
    !decide (s = d) && match ρ x with
    | .str _ => true
    | .int _ _ => true
    | .bool _ => true
    | .val _ => true
    | _ => false
  | .slice _ x _ _ _ =>
    match ρ x with
    | .ptr _ _ => false
    | _ => true
  | _ => false
/-- What is seen by an operation that looks at memory alone. -/
def slook (P : Program) (o : Oper) (ρ : SEnv) (h : Mem) : Option SV :=
  match o.op with
  | .load t a => sload P t (ρ a) h
  | .convert src dst x =>
    match ρ x with
    | .sl n off len sz => (sconv P src dst (.sl n off len sz) h).map (·.1)
    | .im m len c => (sconv P src dst (.im m len c) h).map (·.1)
    | _ => none
  | .slice _ x _ _ none =>
    match ρ x with
    | .ptr _ _ => (sop [] P (fun _ _ _ => none) o ρ h).map (·.1)
    | _ => none
  | _ => none
def schk (P : Program) (o : Oper) (ρ : SEnv) (v : SV) (Hs : List (Nat × Mem)) : List Nat -> Bool
  | [] => true
  | b :: r => (match Hs.lookup b with
    | some B => noLook o ρ || (match slook P o ρ B with
      | some u => SV.beq u v
      | none => false)
    | none => false) && schk P o ρ v Hs r
def sdraw (Γ : List Fact) (P : Program) (call : SCall) (ops : Array Oper) : Nat -> List Item -> Tr SV -> List (Nat × Mem) -> Mem -> Option (Tr SV × Mem)
  | _, [], T, _, h => some (T, h)
  | k, x :: r, T, Hs, h =>
    match ops[x.i]? with
    | none => none
    | some o =>
      match swanted ops o T with
      | some true =>
        match sop Γ P call o (senv T) h with
        | some (v, h') => bif schk P o (senv T) v Hs x.chk then sdraw Γ P call ops (k + 1) r (sput T o.dst v) (bif x.e then (k + 1, h') :: Hs else Hs) h' else none
        | none => none
      | some false => sdraw Γ P call ops (k + 1) r (sput T o.dst (.val undef)) (bif x.e then (k + 1, h) :: Hs else Hs) h
      | none => none
/-! ### code -/
abbrev CRes := Option (Exit × Tr SV × Mem × SLate)
/-- Behind a jump to a label: on, as often as it is jumped to. -/
def sjumps (run : Tr SV -> Mem -> SLate -> CRes) (l : Nat) : Nat -> CRes -> CRes
  | 0, _ => none
  | f + 1, r =>
    match r with
    | some (.goto l', T, h, D) => bif Nat.beq l' l then sjumps run l f (run T h D) else none
    | r => r
def srun (Γ : List Fact) (P : Program) (call : SCall) (n : Nat) : Nat -> Code -> Tr SV -> Mem -> SLate -> CRes
  | 0, _, _, _, _ => none
  | f + 1, c, T, h, D =>
    match c with
    | .skip => some (.normal, T, h, D)
    | .label _ => some (.normal, T, h, D)
    | .exit id => some (.exit id, T, h, D)
    | .goto l => some (.goto l, T, h, D)
    | .ret => some (.ret, T, h, D)
    | .region _ ops d =>
      bif dstOk n ops then
        bif d then
          match mkPlan ops with
          | (ms, pl) => bif P.follows .mixedOrders && planOK ops ms pl then (sdraw Γ P call ops 0 pl T [(0, h)] h).map fun (T, h) => (.normal, T, h, D) else none
        else (sregion Γ P call ops ops.toList T h D).map fun (T, h, D) => (.normal, T, h, D)
      else none
    | .seq x y =>
      match srun Γ P call n f x T h D with
      | some (.normal, T, h, D) => srun Γ P call n f y T h D
      | r => r
    | .cond x y z =>
      match senv T x with
      | .bool b => bif b then srun Γ P call n f y T h D else srun Γ P call n f z T h D
      | _ => none
    | .block id x =>
      match srun Γ P call n f x T h D with
      | some (.exit id', T, h, D) => bif Nat.beq id' id then some (.normal, T, h, D) else some (.exit id', T, h, D)
      | r => r
    | .loop x =>
      match srun Γ P call n f x T h D with
      | some (.normal, T, h, D) => srun Γ P call n f (.loop x) T h D
      | r => r
    | .scope x =>
      match srun Γ P call n f x T h D with
      | some (.goto l, T, h, D) =>
        match findLabel x l with
        | some rest => sjumps (srun Γ P call n f rest) l f (some (.goto l, T, h, D))
        | none => none
      | r => r
    | _ => none
def sres (P : Program) (T : Tr SV) (h : Mem) : List ResultVar -> Option (List SV)
  | [] => some []
  | .tmp t :: r => (sres P T h r).map ((T.get t).getD (.val undef) :: ·)
  | .cell a t :: r => (sload P t ((T.get a).getD (.val undef)) h).bind fun x => (sres P T h r).map (x :: ·)
def sres1 : List SV -> SV
  | [x] => x
  | l => .tup l
def sargs : Nat -> List SV -> Tr SV -> Tr SV
  | _, [], T => T
  | i, x :: r, T => sargs (i + 1) r (T.put i x)
/-- A function's body is run. -/
def sbody (Γ : List Fact) (P : Program) (F : Nat) (call : SCall) (f : FuncId) (args : List SV) (h : Mem) : Option (Func × Tr SV × Mem × SLate) :=
  match P.funcs[f]? with
  | none => none
  | some fn =>
    match fn.body with
    | none => none
    | some code =>
      bif isGo P f && Nat.ble args.length fn.ntmps && Nat.blt fn.ntmps 1000000 then
        match srun Γ P call fn.ntmps F code (sargs 0 args .nil) h [] with
        | some (.normal, T, h', D) => some (fn, T, h', D)
        | some (.ret, T, h', D) => some (fn, T, h', D)
        | _ => none
      else none
/-- A function that is called at the end of another one. -/
def sdef (Γ : List Fact) (P : Program) (F : Nat) (call : SCall) : SCall := fun f args h =>
  match sbody Γ P F call f args h with
  | some (fn, T, h', []) => (sres P T h' fn.results.toList).map fun l => (sres1 l, h')
  | _ => none
/-- What was put off is called. -/
def slast (call : SCall) : SLate -> Mem -> Option Mem
  | [], h => some h
  | (f, args) :: D, h =>
    match f with
    | .fn (.func f) a b =>
      match call f (a ++ args ++ b) h with
      | some (_, h') => slast call D h'
      | none => none
    | _ => none
def scall (Γ : List Fact) (P : Program) (F : Nat) (ovr : FuncId -> Option (List SV -> Mem -> SRes)) : Nat -> SCall
  | 0 => fun _ _ _ => none
  | d + 1 => fun f args h =>
    match ovr f with
    | some g => g args h
    | none =>
      match sbody Γ P F (scall Γ P F ovr d) f args h with
      | some (fn, T, h', D) => (slast (sdef Γ P F (scall Γ P F ovr d)) D h').bind fun h' => (sres P T h' fn.results.toList).map fun l => (sres1 l, h')
      | none => none
end Go.Proofs.YtjinjfblilacaaaGreat.Den
end
section
set_option linter.unusedSimpArgs false
namespace Go.Proofs.YtjinjfblilacaaaGreat.Den
theorem acc_odd {α : Type} {d n : Nat} (h : n % 2 = 1) : acc α (d + 1) n = ⟨fun t : Nd α (PT α d) => (acc α d (n / 2)).g t.l, fun (t : Nd α (PT α d)) a => (⟨t.v, (acc α d (n / 2)).p t.l a, t.r⟩ : Nd α (PT α d))⟩ := by
  have h0 : Nat.beq n 0 = false := by cases n with | zero => simp at h | succ n => rfl
  have h1 : Nat.beq (Nat.mod n 2) 1 = true := by show Nat.beq (n % 2) 1 = true; rw [h]; rfl
  show (bif Nat.beq n 0 then _ else bif Nat.beq (Nat.mod n 2) 1 then _ else _) = _
  rw [h0, h1]; rfl
theorem acc_even {α : Type} {d n : Nat} (h : n % 2 = 0) (hn : n ≠ 0) : acc α (d + 1) n = ⟨fun t : Nd α (PT α d) => (acc α d (n / 2 - 1)).g t.r, fun (t : Nd α (PT α d)) a => (⟨t.v, t.l, (acc α d (n / 2 - 1)).p t.r a⟩ : Nd α (PT α d))⟩ := by
  have h0 : Nat.beq n 0 = false := by cases n with | zero => exact absurd rfl hn | succ n => rfl
  have h1 : Nat.beq (Nat.mod n 2) 1 = false := by show Nat.beq (n % 2) 1 = false; rw [h]; rfl
  show (bif Nat.beq n 0 then _ else bif Nat.beq (Nat.mod n 2) 1 then _ else _) = _
  rw [h0, h1]; rfl
theorem acc_cases (n : Nat) : n = 0 \/ n % 2 = 1 \/ (n % 2 = 0 /\ n ≠ 0) := by omega
theorem acc_gp {α : Type} : ∀ (d n k : Nat) (t : PT α d) (a : Option α), n + 1 < 2 ^ d -> (acc α d k).g ((acc α d n).p t a) = if k = n then a else (acc α d k).g t := by
  intro d
  induction d with
  | zero => intro n k t a h; simp at h
  | succ d ih =>
    intro n k t a h
    rw [Nat.pow_succ] at h
    rcases acc_cases n with rfl | hn | ⟨hn, hn0⟩
    · rcases acc_cases k with rfl | hk | ⟨hk, hk0⟩
      · rfl
      · rw [acc_odd hk, if_neg (by omega)]; rfl
      · rw [acc_even hk hk0, if_neg hk0]; rfl
    · rcases acc_cases k with rfl | hk | ⟨hk, hk0⟩
      · rw [acc_odd hn, if_neg (by omega)]; rfl
      · rw [acc_odd hn, acc_odd hk]
        simp only
        rw [ih _ _ _ _ (by omega)]
        by_cases e : k = n
        · subst e; simp
        · rw [if_neg (by omega), if_neg e]
      · rw [acc_odd hn, acc_even hk hk0, if_neg (by omega)]
    · rcases acc_cases k with rfl | hk | ⟨hk, hk0⟩
      · rw [acc_even hn hn0, if_neg (Ne.symm hn0)]; rfl
      · rw [acc_even hn hn0, acc_odd hk, if_neg (by omega)]
      · rw [acc_even hn hn0, acc_even hk hk0]
        simp only
        rw [ih _ _ _ _ (by omega)]
        by_cases e : k = n
        · subst e; simp
        · rw [if_neg (by omega), if_neg e]
theorem acc_gp_some {α : Type} : ∀ (d n k : Nat) (t : PT α d) (a : Option α) (x : α), (acc α d k).g ((acc α d n).p t a) = some x -> (k = n /\ a = some x) \/ (k ≠ n /\ (acc α d k).g t = some x) := by
  intro d
  induction d with
  | zero => intro n k t a x h; cases h
  | succ d ih =>
    intro n k t a x h
    rcases acc_cases n with rfl | hn | ⟨hn, hn0⟩
    · rcases acc_cases k with rfl | hk | ⟨hk, hk0⟩
      · exact .inl ⟨rfl, h⟩
      · rw [acc_odd hk] at h ⊢; exact .inr ⟨by omega, h⟩
      · rw [acc_even hk hk0] at h ⊢; exact .inr ⟨hk0, h⟩
    · rcases acc_cases k with rfl | hk | ⟨hk, hk0⟩
      · rw [acc_odd hn] at h; exact .inr ⟨by omega, h⟩
      · rw [acc_odd hn, acc_odd hk] at h
        rw [acc_odd hk]
        rcases ih _ _ _ _ _ h with ⟨h1, h2⟩ | ⟨h1, h2⟩
        · exact .inl ⟨by omega, h2⟩
        · exact .inr ⟨by rintro rfl; exact h1 rfl, h2⟩
      · rw [acc_odd hn, acc_even hk hk0] at h
        rw [acc_even hk hk0]; exact .inr ⟨by omega, h⟩
    · rcases acc_cases k with rfl | hk | ⟨hk, hk0⟩
      · rw [acc_even hn hn0] at h; exact .inr ⟨Ne.symm hn0, h⟩
      · rw [acc_even hn hn0, acc_odd hk] at h
        rw [acc_odd hk]; exact .inr ⟨by omega, h⟩
      · rw [acc_even hn hn0, acc_even hk hk0] at h
        rw [acc_even hk hk0]
        rcases ih _ _ _ _ _ h with ⟨h1, h2⟩ | ⟨h1, h2⟩
        · exact .inl ⟨by omega, h2⟩
        · exact .inr ⟨by rintro rfl; exact h1 rfl, h2⟩
theorem acc_gp_none {α : Type} : ∀ (d n k : Nat) (t : PT α d), (acc α d k).g ((acc α d n).p t none) = if k = n then none else (acc α d k).g t := by
  intro d
  induction d with
  | zero => intro n k t; by_cases e : k = n <;> simp [e] <;> rfl
  | succ d ih =>
    intro n k t
    rcases acc_cases n with rfl | hn | ⟨hn, hn0⟩
    · rcases acc_cases k with rfl | hk | ⟨hk, hk0⟩
      · rfl
      · rw [acc_odd hk, if_neg (by omega)]; rfl
      · rw [acc_even hk hk0, if_neg hk0]; rfl
    · rcases acc_cases k with rfl | hk | ⟨hk, hk0⟩
      · rw [acc_odd hn, if_neg (by omega)]; rfl
      · rw [acc_odd hn, acc_odd hk]
        simp only
        rw [ih]
        by_cases e : k = n
        · subst e; simp
        · rw [if_neg (by omega), if_neg e]
      · rw [acc_odd hn, acc_even hk hk0, if_neg (by omega)]
    · rcases acc_cases k with rfl | hk | ⟨hk, hk0⟩
      · rw [acc_even hn hn0, if_neg (Ne.symm hn0)]; rfl
      · rw [acc_even hn hn0, acc_odd hk, if_neg (by omega)]
      · rw [acc_even hn hn0, acc_even hk hk0]
        simp only
        rw [ih]
        by_cases e : k = n
        · subst e; simp
        · rw [if_neg (by omega), if_neg e]
theorem acc_nil {α : Type} : ∀ (d k : Nat), (acc α d k).g (PT.nil α d) = none := by
  intro d
  induction d with
  | zero => intro k; rfl
  | succ d ih =>
    intro k
    rcases acc_cases k with rfl | hk | ⟨hk, hk0⟩
    · rfl
    · rw [acc_odd hk]; exact ih _
    · rw [acc_even hk hk0]; exact ih _
theorem put_get {α : Type} (t : Tr α) (n : Nat) (a : α) (k : Nat) (h : n + 1 < 2 ^ 60) : (t.put n a).get k = if k = n then some a else t.get k := acc_gp 60 n k t (some a) h
theorem put_get_some {α : Type} (t : Tr α) (n : Nat) (a : α) (k : Nat) (x : α) (h : (t.put n a).get k = some x) : (k = n /\ x = a) \/ (k ≠ n /\ t.get k = some x) :=
  (acc_gp_some 60 n k t (some a) x h).imp (fun h => ⟨h.1, by injection h.2 with e; exact e.symm⟩) id
theorem del_get {α : Type} (t : Tr α) (n k : Nat) : (t.del n).get k = if k = n then none else t.get k := acc_gp_none 60 n k t
theorem nil_get {α : Type} (k : Nat) : (Tr.nil : Tr α).get k = none := acc_nil 60 k
/-! ### what is meant -/
structure Vals where
  i : Nat -> Int
  b : Nat -> UInt8
  f : Nat -> List Int -> Nat -> UInt8
mutual
def IE.den (ρ : Vals) : IE -> Int
  | .lit n => n
  | .var i => ρ.i i
  | .byte i => (ρ.b i).toNat
  | .bin op k a b => (arI op k (a.den ρ) (b.den ρ)).getD 0
  | .wrap k a => k.wrap (a.den ρ)
  | .fn f l i => (ρ.f f (IE.dens ρ l) i).toNat
def IE.dens (ρ : Vals) : List IE -> List Int
  | [] => []
  | a :: l => a.den ρ :: IE.dens ρ l
end
def strOf (ρ : Vals) (l : List IE) : ByteArray := ⟨(l.map fun e => UInt8.ofNat (e.den ρ).toNat).toArray⟩
mutual
/-- What a value means, addresses by their names. -/
inductive SRel (ρ : Vals) (ν : Nat -> Option Name) : SV -> AV -> Prop
  | int (k : IntKind) (e : IE) : SRel ρ ν (.int k e) (.val (.int k (e.den ρ)))
  | bool (b : Bool) : SRel ρ ν (.bool b) (.val (.bool b))
  | str (l : List IE) : SRel ρ ν (.str l) (.val (.string (strOf ρ l)))
  | val (v : Value) : SRel ρ ν (.val v) (.val v)
  | ptr {n off : Nat} {m : Name} (h : ν n = some m) : SRel ρ ν (.ptr n off) (.ptr m off)
  | imp {m : Bool} {c : List SV} {c' : List AV} {off : Nat} (h : SRels ρ ν c c') : SRel ρ ν (.imp m c off) (.imp m c' off)
  | sl {n off len sz : Nat} {m : Name} (h : ν n = some m) : SRel ρ ν (.sl n off len sz) (.sl m off len sz)
  | im {m : Bool} {len : Nat} {c : List SV} {c' : List AV} (h : SRels ρ ν c c') : SRel ρ ν (.im m len c) (.im m len c')
  | agg {c : List SV} {c' : List AV} (h : SRels ρ ν c c') : SRel ρ ν (.agg c) (.agg c')
  | tup {c : List SV} {c' : List AV} (h : SRels ρ ν c c') : SRel ρ ν (.tup c) (.tup c')
  | fn {f : Fn} {a b : List SV} {a' b' : List AV} (h : SRels ρ ν a a') (h' : SRels ρ ν b b') : SRel ρ ν (.fn f a b) (.fn f a' b')
inductive SRels (ρ : Vals) (ν : Nat -> Option Name) : List SV -> List AV -> Prop
  | nil : SRels ρ ν [] []
  | cons {a : SV} {x : AV} {l : List SV} {xs : List AV} (h : SRel ρ ν a x) (t : SRels ρ ν l xs) : SRels ρ ν (a :: l) (x :: xs)
end
def Nu.le (ν ν' : Nat -> Option Name) : Prop := ∀ n m, ν n = some m -> ν' n = some m
mutual
theorem SRel.mono {ρ : Vals} {ν ν' : Nat -> Option Name} (hs : Nu.le ν ν') {a : SV} {x : AV} (h : SRel ρ ν a x) : SRel ρ ν' a x :=
  match h with
  | .int k e => .int k e
  | .bool b => .bool b
  | .str l => .str l
  | .val v => .val v
  | .ptr h => .ptr (hs _ _ h)
  | .imp h => .imp (SRels.mono hs h)
  | .sl h => .sl (hs _ _ h)
  | .im h => .im (SRels.mono hs h)
  | .agg h => .agg (SRels.mono hs h)
  | .tup h => .tup (SRels.mono hs h)
  | .fn h h' => .fn (SRels.mono hs h) (SRels.mono hs h')
theorem SRels.mono {ρ : Vals} {ν ν' : Nat -> Option Name} (hs : Nu.le ν ν') {a : List SV} {x : List AV} (h : SRels ρ ν a x) : SRels ρ ν' a x :=
  match h with
  | .nil => .nil
  | .cons h t => .cons (SRel.mono hs h) (SRels.mono hs t)
end
section
variable {ρ : Vals} {ν : Nat -> Option Name}
theorem SRels.length {l : List SV} {xs : List AV} (h : SRels ρ ν l xs) : l.length = xs.length := by
  induction l generalizing xs with
  | nil => cases h; rfl
  | cons a l ih => cases h with | cons h t => simp [ih t]
theorem SRels.get {l : List SV} {xs : List AV} (h : SRels ρ ν l xs) {i : Nat} {a : SV} (ha : l[i]? = some a) : ∃ x, xs[i]? = some x /\ SRel ρ ν a x := by
  induction l generalizing xs i with
  | nil => simp at ha
  | cons b l ih =>
    cases h with
    | cons h t =>
      cases i with
      | zero => simp at ha; subst ha; exact ⟨_, rfl, h⟩
      | succ i => simpa using ih t (by simpa using ha)
theorem SRels.append {l k : List SV} {xs ys : List AV} (h : SRels ρ ν l xs) (h' : SRels ρ ν k ys) : SRels ρ ν (l ++ k) (xs ++ ys) := by
  induction l generalizing xs with
  | nil => cases h; exact h'
  | cons a l ih => cases h with | cons h t => exact .cons h (ih t)
theorem SRels.take {l : List SV} {xs : List AV} (h : SRels ρ ν l xs) (n : Nat) : SRels ρ ν (l.take n) (xs.take n) := by
  induction l generalizing xs n with
  | nil => cases h; simp; exact .nil
  | cons a l ih =>
    cases h with
    | cons h t =>
      cases n with
      | zero => simp; exact .nil
      | succ n => simpa using SRels.cons h (ih t n)
theorem SRels.drop {l : List SV} {xs : List AV} (h : SRels ρ ν l xs) (n : Nat) : SRels ρ ν (l.drop n) (xs.drop n) := by
  induction l generalizing xs n with
  | nil => cases h; simp; exact .nil
  | cons a l ih =>
    cases h with
    | cons h t =>
      cases n with
      | zero => simpa using SRels.cons h t
      | succ n => simpa using ih t n
theorem scut_eq : ∀ (n : Nat) (l r : List SV), scut n l = some r -> r = l.take n /\ n <= l.length := by
  intro n
  induction n with
  | zero => intro l r h; simp only [scut, Option.some.injEq] at h; subst h; simp
  | succ n ih =>
    intro l r h
    cases l with
    | nil => simp [scut] at h
    | cons x l =>
      simp only [scut, Option.map_eq_some_iff] at h
      obtain ⟨r', h1, rfl⟩ := h
      obtain ⟨h2, h3⟩ := ih l r' h1
      subst h2
      exact ⟨by simp, by simp; omega⟩
theorem sdrop_eq : ∀ (n : Nat) (l r : List SV), sdrop n l = some r -> r = l.drop n /\ n <= l.length := by
  intro n
  induction n with
  | zero => intro l r h; simp only [sdrop, Option.some.injEq] at h; subst h; simp
  | succ n ih =>
    intro l r h
    cases l with
    | nil => simp [sdrop] at h
    | cons x l =>
      simp only [sdrop] at h
      obtain ⟨h2, h3⟩ := ih l r h
      subst h2
      exact ⟨by simp, by simp; omega⟩
theorem sseg_eq {off n : Nat} {l r : List SV} (h : sseg off n l = some r) : r = (l.drop off).take n /\ off + n <= l.length := by
  simp only [sseg, Option.bind_eq_some_iff] at h
  obtain ⟨d, h1, h2⟩ := h
  obtain ⟨rfl, h3⟩ := sdrop_eq _ _ _ h1
  obtain ⟨rfl, h4⟩ := scut_eq _ _ _ h2
  simp at h4
  exact ⟨rfl, by omega⟩
theorem SRels.seg {off n : Nat} {l r : List SV} {xs : List AV} (hl : SRels ρ ν l xs) (h : sseg off n l = some r) : SRels ρ ν r ((xs.drop off).take n) /\ off + n <= xs.length := by
  obtain ⟨rfl, h2⟩ := sseg_eq h
  exact ⟨(hl.drop off).take n, by rw [<- hl.length]; exact h2⟩
theorem ins_rel : ∀ {vs row row' : List SV} {xs ys : List AV}, sset.ins vs row = some row' -> SRels ρ ν vs xs -> SRels ρ ν row ys -> SRels ρ ν row' (setMany ys 0 xs) /\ xs.length <= ys.length := by
  have gen : ∀ (xs ys : List AV) (y : AV) (k : Nat), setMany (y :: ys) (k + 1) xs = y :: setMany ys k xs := by
    intro xs
    induction xs with
    | nil => intro ys y k; rfl
    | cons x xs ih => intro ys y k; simp only [setMany, List.set_cons_succ, ih]
  intro vs
  induction vs with
  | nil => intro row row' xs ys h hv hr; cases hv; simp only [sset.ins, Option.some.injEq] at h; subst h; exact ⟨hr, by simp⟩
  | cons v vs ih =>
    intro row row' xs ys h hv hr
    cases hv with
    | cons hv ht =>
      cases hr with
      | nil => simp [sset.ins] at h
      | cons hy hr =>
        simp only [sset.ins, Option.map_eq_some_iff] at h
        obtain ⟨r, h1, rfl⟩ := h
        obtain ⟨i1, i2⟩ := ih h1 ht hr
        refine ⟨?_, by simp; omega⟩
        simp only [setMany, List.set_cons_zero, gen]
        exact .cons hv i1
theorem sset_rel : ∀ {off : Nat} {vs row row' : List SV} {xs ys : List AV}, sset off vs row = some row' -> SRels ρ ν vs xs -> SRels ρ ν row ys -> SRels ρ ν row' (setMany ys off xs) /\ off + xs.length <= ys.length := by
  have gen : ∀ (xs ys : List AV) (y : AV) (k : Nat), setMany (y :: ys) (k + 1) xs = y :: setMany ys k xs := by
    intro xs
    induction xs with
    | nil => intro ys y k; rfl
    | cons x xs ih => intro ys y k; simp only [setMany, List.set_cons_succ, ih]
  intro off
  induction off with
  | zero => intro vs row row' xs ys h hv hr; simp only [sset] at h; simpa using ins_rel h hv hr
  | succ off ih =>
    intro vs row row' xs ys h hv hr
    cases hr with
    | nil => simp [sset] at h
    | cons hy hr =>
      simp only [sset, Option.map_eq_some_iff] at h
      obtain ⟨r, h1, rfl⟩ := h
      obtain ⟨i1, i2⟩ := ih h1 hv hr
      refine ⟨by rw [gen]; exact .cons hy i1, by simp; omega⟩
end
/-- The rows that the executor knows of are there, each under its name. -/
def MRows (ρ : Vals) (ν : Nat -> Option Name) (h : Mem) (H : AHeap) : Prop :=
  ∀ n row, h.get n = some row -> ∃ m row', ν n = some m /\ H m = some row' /\ SRels ρ ν row row'
/-- The memory holds the rows that the executor knows of, each under its name. -/
structure MRel (ρ : Vals) (ν : Nat -> Option Name) (h : Mem) (H : AHeap) : Prop where
  rows : MRows ρ ν h H
  inj : ∀ n k m, ν n = some m -> ν k = some m -> n = k
  lt : ∀ n, ν n ≠ none -> n < h.next
end Go.Proofs.YtjinjfblilacaaaGreat.Den
end
section
set_option linter.unusedSimpArgs false
namespace Go.Proofs.YtjinjfblilacaaaGreat.Den
variable {P : Program} {ρ : Vals} {ν : Nat -> Option Name}
def nset (ν : Nat -> Option Name) (n : Nat) (m : Name) : Nat -> Option Name := fun k => if k = n then some m else ν k
theorem MRel.new {h : Mem} {H : AHeap} (hm : MRel ρ ν h H) : ν h.next = none := by
  cases e : ν h.next with
  | none => rfl
  | some m => have := hm.lt h.next (by rw [e]; simp); omega
theorem MRel.le_nset {h : Mem} {H : AHeap} (hm : MRel ρ ν h H) (m : Name) : Nu.le ν (nset ν h.next m) := by
  intro n k hk
  unfold nset
  rw [if_neg]; exact hk
  rintro rfl; rw [hm.new] at hk; cases hk
/-- A new row. -/
theorem MRel.push {h : Mem} {H : AHeap} (hm : MRel ρ ν h H) {m : Name} (hf : ∀ n, ν n ≠ some m) {row : List SV} {row' : List AV} (hr : SRels ρ ν row row') :
    MRel ρ (nset ν h.next m) (h.push row) (upd H m (some row')) := by
  have hle := hm.le_nset m
  refine ⟨?_, ?_, ?_⟩
  · intro n r hn
    rcases put_get_some _ _ _ _ _ hn with ⟨rfl, rfl⟩ | ⟨hne, hn⟩
    · exact ⟨m, row', by simp [nset], upd_same _ _ _, hr.mono hle⟩
    · obtain ⟨k, r', h1, h2, h3⟩ := hm.rows n r hn
      refine ⟨k, r', hle _ _ h1, ?_, h3.mono hle⟩
      rw [upd_ne]; exact h2
      rintro rfl; exact hf n h1
  · intro n k x hn hk
    unfold nset at hn hk
    split at hn
    · rename_i e1
      split at hk
      · rename_i e2; omega
      · cases hn; exact absurd hk (hf k)
    · split at hk
      · cases hk; exact absurd hn (hf n)
      · exact hm.inj n k x hn hk
  · intro n hn
    unfold nset at hn
    split at hn
    · rename_i e; subst e; simp [Mem.push]
    · have := hm.lt n hn; simp [Mem.push]; omega
/-- A row is changed. -/
theorem MRel.set {h : Mem} {H : AHeap} (hm : MRel ρ ν h H) {n : Nat} {m : Name} (hn : ν n = some m) {row : List SV} {row' : List AV} (hr : SRels ρ ν row row') :
    MRel ρ ν (h.set n row) (upd H m (some row')) := by
  refine ⟨?_, hm.inj, hm.lt⟩
  intro k r hk
  rcases put_get_some _ _ _ _ _ hk with ⟨rfl, rfl⟩ | ⟨hne, hk⟩
  · exact ⟨m, row', hn, upd_same _ _ _, hr⟩
  · obtain ⟨x, r', h1, h2, h3⟩ := hm.rows k r hk
    refine ⟨x, r', h1, ?_, h3⟩
    rw [upd_ne]; exact h2
    rintro rfl; exact hne (hm.inj _ _ _ h1 hn)
/-- A row is forgotten. -/
theorem MRel.drop {h : Mem} {H : AHeap} (hm : MRel ρ ν h H) {n : Nat} {m : Name} (hn : ν n = some m) : MRel ρ ν (h.drop n) (upd H m none) := by
  refine ⟨?_, hm.inj, hm.lt⟩
  intro k r hk
  have hk' : (h.m.del n).get k = some r := hk
  rw [del_get] at hk'
  split at hk'
  · cases hk'
  · rename_i hne
    obtain ⟨x, r', h1, h2, h3⟩ := hm.rows k r hk'
    refine ⟨x, r', h1, ?_, h3⟩
    rw [upd_ne]; exact h2
    rintro rfl; exact hne (hm.inj _ _ _ h1 hn)
theorem sconst_rel (v : Value) : SRel ρ ν (ofConst v) (.val v) := by
  cases v with
  | int k n => exact .int k (.lit n)
  | bool b => exact .bool b
  | string s =>
    have : strOf ρ (s.data.toList.map fun b => IE.lit b.toNat) = s := by
      unfold strOf
      have : (List.map (fun e => UInt8.ofNat (IE.den ρ e).toNat) (s.data.toList.map fun b => IE.lit b.toNat)) = s.data.toList := by
        rw [List.map_map]
        conv => rhs; rw [<- List.map_id s.data.toList]
        refine List.map_congr_left fun b _ => ?_
        simp [IE.den]
      rw [this]
    have h := SRel.str (ρ := ρ) (ν := ν) (s.data.toList.map fun b => IE.lit b.toNat)
    rw [this] at h
    exact h
  | _ => exact .val _
theorem sconsts_rel : ∀ l : List Value, SRels ρ ν (l.map ofConst) (l.map .val)
  | [] => .nil
  | v :: l => .cons (sconst_rel v) (sconsts_rel l)
theorem scells_rel {a : SV} {x : AV} (h : SRel ρ ν a x) : SRels ρ ν a.cells x.cells := by
  cases h with
  | agg h => exact h
  | val v => exact sconsts_rel _
  | int k e => exact .cons (.int k e) .nil
  | bool b => exact .cons (.bool b) .nil
  | str l => exact .cons (.str l) .nil
  | ptr h => exact .cons (.ptr h) .nil
  | imp h => exact .cons (.imp h) .nil
  | sl h => exact .cons (.sl h) .nil
  | im h => exact .cons (.im h) .nil
  | tup h => exact .cons (.tup h) .nil
  | fn h h' => exact .cons (.fn h h') .nil
theorem sone_rel {a : SV} {x : AV} (h : SRel ρ ν a x) (ho : a.one = true) : x.one = true := by
  cases h <;> first | rfl | (simp [SV.one] at ho; done) | exact ho
theorem sall_one {l : List SV} {xs : List AV} (h : SRels ρ ν l xs) (ho : l.all SV.one = true) : xs.all AV.one = true := by
  induction l generalizing xs with
  | nil => cases h; rfl
  | cons a l ih =>
    cases h with
    | cons h t =>
      simp only [List.all_cons, Bool.and_eq_true] at ho ⊢
      exact ⟨sone_rel h ho.1, ih t ho.2⟩
theorem snat_rel {a : SV} {x : AV} (h : SRel ρ ν a x) {n : Nat} (hn : sNat a = some n) : natOf x = some n := by
  cases h with
  | int k e =>
    cases e with
    | lit i =>
      cases i with
      | ofNat i => simp only [sNat, Option.some.injEq] at hn; subst hn; simp [natOf, IE.den]
      | negSucc i => simp [sNat] at hn
    | _ => simp [sNat] at hn
  | _ => simp [sNat] at hn
theorem sload_rel {h : Mem} {H : AHeap} (hm : MRows ρ ν h H) {t : TypeId} {a r : SV} {x : AV} (ha : SRel ρ ν a x) (hr : sload P t a h = some r) : ∃ y, aload P t x H = some y /\ SRel ρ ν r y := by
  unfold sload at hr
  split at hr
  · rename_i n off size hg hz
    cases ha with
    | @ptr _ _ m hn =>
      simp only [Option.bind_eq_some_iff, Option.map_eq_some_iff] at hr
      obtain ⟨row, h1, l, h2, rfl⟩ := hr
      obtain ⟨m', row', h3, h4, h5⟩ := hm n row h1
      rw [hn] at h3; cases h3
      obtain ⟨h6, h7⟩ := h5.seg h2
      exact ⟨_, by simp [aload, hg, hz, h4, h7], .agg h6⟩
  · rename_i n off size hg hz
    cases ha with
    | @ptr _ _ m hn =>
      simp only [Option.bind_eq_some_iff] at hr
      obtain ⟨row, h1, h2⟩ := hr
      obtain ⟨m', row', h3, h4, h5⟩ := hm n row h1
      rw [hn] at h3; cases h3
      obtain ⟨y, h6, h7⟩ := h5.get h2
      exact ⟨y, by simp [aload, hg, hz, h4, h6], h7⟩
  · rename_i m cells off size hg hz
    cases ha with
    | @imp _ _ c' _ hc =>
      simp only [Option.map_eq_some_iff] at hr
      obtain ⟨l, h2, rfl⟩ := hr
      obtain ⟨h6, h7⟩ := hc.seg h2
      exact ⟨_, by simp [aload, hg, hz, h7], .agg h6⟩
  · rename_i m cells off size hg hz
    cases ha with
    | @imp _ _ c' _ hc =>
      obtain ⟨y, h6, h7⟩ := hc.get hr
      exact ⟨y, by simp [aload, hg, hz, h6], h7⟩
  · cases hr
theorem sstore_rel {h h' : Mem} {H : AHeap} (hm : MRel ρ ν h H) {t : TypeId} {a b : SV} {x y : AV} (ha : SRel ρ ν a x) (hb : SRel ρ ν b y) (hr : sstore P t a b h = some h') : ∃ H', astore P t x y H = some H' /\ MRel ρ ν h' H' := by
  unfold sstore at hr
  split at hr
  · rename_i n off
    cases ha with
    | @ptr _ _ m hn =>
      cases hc : (decide (szOf P t = some b.cells.length) && b.cells.all SV.one) with
      | false => rw [hc] at hr; cases hr
      | true =>
        rw [hc] at hr
        simp only [cond_true, Option.bind_eq_some_iff, Option.map_eq_some_iff] at hr
        obtain ⟨row, h1, row₂, h2, rfl⟩ := hr
        obtain ⟨m', row', h3, h4, h5⟩ := hm.rows n row h1
        rw [hn] at h3; cases h3
        have hcr := scells_rel hb
        obtain ⟨h6, h7⟩ := sset_rel h2 hcr h5
        simp only [Bool.and_eq_true, decide_eq_true_eq] at hc
        refine ⟨_, ?_, hm.set hn h6⟩
        simp only [astore]
        rw [if_pos ⟨by rw [hc.1, hcr.length], sall_one hcr hc.2⟩, h4]
        simp [h7]
  · cases hr
end Go.Proofs.YtjinjfblilacaaaGreat.Den
end
section
set_option linter.unusedSimpArgs false
namespace Go.Proofs.YtjinjfblilacaaaGreat.Den
variable {P : Program} {ρ : Vals} {ν : Nat -> Option Name}
mutual
theorem IE.beq_eq : ∀ {a b : IE}, IE.beq a b = true -> a = b
  | .lit a, b, h => by cases b <;> simp [IE.beq] at h; subst h; rfl
  | .var i, b, h => by cases b <;> simp [IE.beq] at h; subst h; rfl
  | .byte i, b, h => by cases b <;> simp [IE.beq] at h; subst h; rfl
  | .bin op k x y, b, h => by
    cases b with
    | bin op' k' x' y' =>
      simp only [IE.beq, Bool.and_eq_true, decide_eq_true_eq] at h
      obtain ⟨⟨⟨rfl, rfl⟩, h1⟩, h2⟩ := h
      rw [IE.beq_eq h1, IE.beq_eq h2]
    | _ => simp [IE.beq] at h
  | .wrap k x, b, h => by
    cases b with
    | wrap k' x' =>
      simp only [IE.beq, Bool.and_eq_true, decide_eq_true_eq] at h
      obtain ⟨rfl, h1⟩ := h
      rw [IE.beq_eq h1]
    | _ => simp [IE.beq] at h
  | .fn f l i, b, h => by
    cases b with
    | fn f' l' i' =>
      simp only [IE.beq, Bool.and_eq_true] at h
      obtain ⟨⟨h1, h2⟩, h3⟩ := h
      rw [Nat.eq_of_beq_eq_true h1, Nat.eq_of_beq_eq_true h2, IE.beqs_eq h3]
    | _ => simp [IE.beq] at h
theorem IE.beqs_eq : ∀ {a b : List IE}, IE.beqs a b = true -> a = b
  | [], b, h => by cases b <;> simp [IE.beqs] at h; rfl
  | x :: l, b, h => by
    cases b with
    | nil => simp [IE.beqs] at h
    | cons y r =>
      simp only [IE.beqs, Bool.and_eq_true] at h
      rw [IE.beq_eq h.1, IE.beqs_eq h.2]
end
/-- What is taken for known is so. -/
def FOk (ρ : Vals) (Γ : List Fact) : Prop := ∀ x ∈ Γ, cmpI x.op (x.a.den ρ) (x.b.den ρ) = some x.r
theorem lookF_ok {Γ : List Fact} (hF : FOk ρ Γ) {op : BinOp} {a b : IE} {r : Bool} (h : lookF Γ op a b = some r) : cmpI op (a.den ρ) (b.den ρ) = some r := by
  induction Γ with
  | nil => simp [lookF] at h
  | cons x Γ ih =>
    simp only [lookF] at h
    cases hc : (decide (x.op = op) && IE.beq x.a a && IE.beq x.b b) with
    | false => rw [hc] at h; exact ih (fun y hy => hF y (List.mem_cons_of_mem _ hy)) h
    | true =>
      rw [hc] at h
      simp only [cond_true, Option.some.injEq] at h
      simp only [Bool.and_eq_true, decide_eq_true_eq] at hc
      obtain ⟨⟨h1, h2⟩, h3⟩ := hc
      have := hF x (by simp)
      rw [h1, IE.beq_eq h2, IE.beq_eq h3, h] at this
      exact this
theorem cmpE_ok {Γ : List Fact} (hF : FOk ρ Γ) {op : BinOp} {a b : IE} {r : Bool} (h : cmpE Γ op a b = some r) : cmpI op (a.den ρ) (b.den ρ) = some r := by
  unfold cmpE at h
  split at h
  · exact h
  · split at h
    · rename_i h1; cases h; exact lookF_ok hF h1
    · cases hb : IE.beq a b with
      | false => rw [hb] at h; cases h
      | true =>
        rw [hb] at h
        rw [IE.beq_eq hb]
        simp only [cond_true] at h
        cases op <;> simp_all [cmpI]
theorem isByte_ok {e : IE} (h : e.isByte = true) : 0 <= e.den ρ /\ e.den ρ < 256 := by
  unfold IE.isByte at h
  split at h
  · simp only [Bool.and_eq_true, decide_eq_true_eq] at h; exact h
  · have := (ρ.b ‹_›).toNat_lt
    simp only [IE.den]; omega
  · simp only [IE.den, IntKind.wrap_u8]; omega
  · rename_i f l i
    have := (ρ.f f (IE.dens ρ l) i).toNat_lt
    simp only [IE.den]; omega
  · cases h
theorem wrapE_ok (k : IntKind) (a : IE) : (wrapE k a).den ρ = k.wrap (a.den ρ) := by
  unfold wrapE
  split
  · rw [forceI_eq]; rfl
  · cases hc : (a.isByte && (match k with | .i64 | .u64 | .u8 | .u32 | .i32 => true | _ => false)) with
    | false => simp only [cond_false, IE.den]
    | true =>
      simp only [cond_true]
      simp only [Bool.and_eq_true] at hc
      obtain ⟨h1, h2⟩ := hc
      have := isByte_ok (ρ := ρ) h1
      cases k <;> simp at h2
      · rw [IntKind.wrap_i32]; omega
      · rw [IntKind.wrap_i64]; omega
      · rw [IntKind.wrap_u8]; omega
      · rw [IntKind.wrap_u32]; omega
      · rw [IntKind.wrap_u64]; omega
theorem binE_ok {op : BinOp} {k : IntKind} {a b e : IE} (h : binE op k a b = some e) : arI op k (a.den ρ) (b.den ρ) = some (e.den ρ) := by
  unfold binE at h
  split at h
  · rename_i x y
    split at h
    · rename_i z hz
      cases h
      rw [forceI_eq]; exact hz
    · cases h
  · rename_i a y _
    split at h
    · cases h; rfl
    · cases h; rfl
    · cases h; rfl
    · cases h; rfl
    · cases h; rfl
    · cases h; rfl
    · cases hy : decide (y = 0) with
      | true => rw [hy] at h; cases h
      | false => rw [hy] at h; cases h; simp at hy; simp [IE.den, arI, hy]
    · cases hy : decide (y = 0) with
      | true => rw [hy] at h; cases h
      | false => rw [hy] at h; cases h; simp at hy; simp [IE.den, arI, hy]
    · cases hy : decide (0 <= y) with
      | false => rw [hy] at h; cases h
      | true => rw [hy] at h; cases h; simp at hy; simp [IE.den, arI, hy]
    · cases hy : decide (0 <= y) with
      | false => rw [hy] at h; cases h
      | true => rw [hy] at h; cases h; simp at hy; simp [IE.den, arI, hy]
    · cases h
  · split at h <;> first | (cases h; rfl) | cases h
theorem binV_ar {op : BinOp} {k k' : IntKind} {x y z : Int} (h : arI op k x y = some z) (hk : isSh op = true \/ k = k') : binV op (.int k x) (.int k' y) = some (.int k z) := by
  cases op <;> simp [arI] at h <;> simp [isSh] at hk <;> simp_all [binV]
theorem binV_cmp {op : BinOp} {k : IntKind} {x y : Int} {r : Bool} (h : cmpI op x y = some r) : binV op (.int k x) (.int k y) = some (.bool r) := by
  cases op <;> simp [cmpI] at h <;> simp_all [binV]
end Go.Proofs.YtjinjfblilacaaaGreat.Den
end
section
set_option linter.unusedSimpArgs false
namespace Go.Proofs.YtjinjfblilacaaaGreat.Den
variable {P : Program} {ρ : Vals} {ν : Nat -> Option Name}
theorem strOf_size (l : List IE) : (strOf ρ l).size = l.length := by simp [strOf, ByteArray.size]
theorem strOf_append (l r : List IE) : strOf ρ (l ++ r) = strOf ρ l ++ strOf ρ r := by
  apply ByteArray.ext
  simp [strOf]
theorem sbin_ok {Γ : List Fact} (hF : FOk ρ Γ) {op : BinOp} {a b r : SV} {x y : AV} (ha : SRel ρ ν a x) (hb : SRel ρ ν b y) (h : sbin Γ op a b = some r) :
    ∃ u v w, x = .val u /\ y = .val v /\ binV op u v = some w /\ SRel ρ ν r (.val w) := by
  unfold sbin at h
  split at h
  · rename_i k x' k' y'
    cases ha; cases hb
    cases hc : (isSh op || decide (k = k')) with
    | false => rw [hc] at h; cases h
    | true =>
      rw [hc] at h
      simp only [cond_true] at h
      simp only [Bool.or_eq_true, decide_eq_true_eq] at hc
      split at h
      all_goals
        simp only [Option.map_eq_some_iff] at h
        obtain ⟨z, h1, rfl⟩ := h
      · exact ⟨_, _, _, rfl, rfl, by rw [<- hc.resolve_left (by simp [isSh])]; exact binV_cmp (cmpE_ok hF h1), .bool z⟩
      · exact ⟨_, _, _, rfl, rfl, by rw [<- hc.resolve_left (by simp [isSh])]; exact binV_cmp (cmpE_ok hF h1), .bool z⟩
      · exact ⟨_, _, _, rfl, rfl, by rw [<- hc.resolve_left (by simp [isSh])]; exact binV_cmp (cmpE_ok hF h1), .bool z⟩
      · exact ⟨_, _, _, rfl, rfl, by rw [<- hc.resolve_left (by simp [isSh])]; exact binV_cmp (cmpE_ok hF h1), .bool z⟩
      · exact ⟨_, _, _, rfl, rfl, by rw [<- hc.resolve_left (by simp [isSh])]; exact binV_cmp (cmpE_ok hF h1), .bool z⟩
      · exact ⟨_, _, _, rfl, rfl, by rw [<- hc.resolve_left (by simp [isSh])]; exact binV_cmp (cmpE_ok hF h1), .bool z⟩
      · exact ⟨_, _, _, rfl, rfl, binV_ar (binE_ok h1) hc, .int k z⟩
  · rename_i x' y'
    cases ha; cases hb
    split at h
    · cases hc : Nat.ble (x'.length + y'.length) 140737488355328 with
      | false => rw [hc] at h; cases h
      | true =>
        rw [hc] at h
        cases h
        have hle := Nat.le_of_ble_eq_true hc
        refine ⟨_, _, .string (strOf ρ (x' ++ y')), rfl, rfl, ?_, .str _⟩
        simp only [binV, strOf_size, strOf_append]
        rw [if_neg]
        have : IntKind.i64.max = 9223372036854775807 := by decide
        rw [this]; omega
    · cases h
  · rename_i u v
    cases ha; cases hb
    simp only [sbinV, Option.map_eq_some_iff] at h
    obtain ⟨w, h1, rfl⟩ := h
    exact ⟨_, _, w, rfl, rfl, h1, sconst_rel w⟩
  · cases h
theorem sindexAddr_ok {t : TypeId} {a i r : SV} {x y : AV} (ha : SRel ρ ν a x) (hi : SRel ρ ν i y) (h : sindexAddr P t a i = some r) : ∃ z, aindexAddr P t x y = some z /\ SRel ρ ν r z := by
  unfold sindexAddr at h
  split at h
  · rename_i j n off len sz e hj hu
    cases ha with
    | @sl _ _ _ _ m hn =>
      cases hc : (decide (szOf P e = some sz) && Nat.blt j len) with
      | false => rw [hc] at h; cases h
      | true =>
        rw [hc] at h
        simp only [cond_true, forceN_eq, Option.some.injEq] at h
        subst h
        simp only [Bool.and_eq_true, decide_eq_true_eq] at hc
        exact ⟨.ptr m (off + j * sz), by simp [aindexAddr, snat_rel hi hj, hu, hc.1, blt_lt hc.2], .ptr hn⟩
  · rename_i j m len cells e hj hu
    cases ha with
    | @im _ _ _ c' hcs =>
      simp only [Option.bind_eq_some_iff] at h
      obtain ⟨sz, h1, h⟩ := h
      cases hc : (Nat.blt j len && Nat.beq cells.length (len * sz)) with
      | false => rw [hc] at h; cases h
      | true =>
        rw [hc] at h
        simp only [cond_true, forceN_eq, Option.some.injEq] at h
        subst h
        simp only [Bool.and_eq_true] at hc
        exact ⟨.imp m c' (j * sz), by simp [aindexAddr, snat_rel hi hj, hu, h1, blt_lt hc.1, <- hcs.length, Nat.eq_of_beq_eq_true hc.2], .imp hcs⟩
  · rename_i j n off len e hj hu
    cases ha with
    | @ptr _ _ m hn =>
      simp only [Option.bind_eq_some_iff] at h
      obtain ⟨sz, h1, h⟩ := h
      cases hc : Nat.blt j len with
      | false => rw [hc] at h; cases h
      | true =>
        rw [hc] at h
        simp only [cond_true, forceN_eq, Option.some.injEq] at h
        subst h
        exact ⟨.ptr m (off + j * sz), by simp [aindexAddr, snat_rel hi hj, hu, h1, blt_lt hc], .ptr hn⟩
  · rename_i j m cells off len e hj hu
    cases ha with
    | @imp _ _ c' _ hcs =>
      simp only [Option.bind_eq_some_iff] at h
      obtain ⟨sz, h1, h⟩ := h
      cases hc : Nat.blt j len with
      | false => rw [hc] at h; cases h
      | true =>
        rw [hc] at h
        simp only [cond_true, forceN_eq, Option.some.injEq] at h
        subst h
        exact ⟨.imp m c' (off + j * sz), by simp [aindexAddr, snat_rel hi hj, hu, h1, blt_lt hc], .imp hcs⟩
  · cases h
theorem sfieldAddr_ok {s : TypeId} {a r : SV} {x : AV} {f : Nat} (ha : SRel ρ ν a x) (h : sfieldAddr P s a f = some r) : ∃ z, afieldAddr P s x f = some z /\ SRel ρ ν r z := by
  unfold sfieldAddr at h
  split at h
  · rename_i fs hu
    simp only [Option.bind_eq_some_iff] at h
    obtain ⟨fl, h1, sz, h2, h⟩ := h
    cases hc : Nat.beq sz 0 with
    | true => rw [hc] at h; cases h
    | false =>
      rw [hc] at h
      have hz : sz ≠ 0 := by rintro rfl; simp at hc
      simp only [cond_false] at h
      split at h
      · cases ha with
        | @ptr _ _ m hn =>
          simp only [forceN_eq, Option.some.injEq] at h
          subst h
          exact ⟨_, by simp [afieldAddr, hu, h1, h2, hz], .ptr hn⟩
      · cases ha with
        | @imp _ _ c' _ hcs =>
          simp only [forceN_eq, Option.some.injEq] at h
          subst h
          exact ⟨_, by simp [afieldAddr, hu, h1, h2, hz], .imp hcs⟩
      · cases h
  · cases h
theorem spart_ok {t : TypeId} {l : List SV} {xs : List AV} {off : Nat} {r : SV} (hl : SRels ρ ν l xs) (h : spart P t l off = some r) : ∃ z, apart P t xs off = some z /\ SRel ρ ν r z := by
  unfold spart at h
  split at h
  · rename_i size h1 h2
    simp only [Option.map_eq_some_iff] at h
    obtain ⟨c, h3, rfl⟩ := h
    obtain ⟨h4, h5⟩ := hl.seg h3
    exact ⟨_, by simp [apart, h1, h2, h5], .agg h4⟩
  · rename_i size h1 h2
    obtain ⟨z, h3, h4⟩ := hl.get h
    exact ⟨z, by simp [apart, h1, h2, h3], h4⟩
  · cases h
theorem slen_ok {t : TypeId} {a r : SV} {x : AV} (ha : SRel ρ ν a x) (h : slen P t a = some r) : ∃ z, alen P t x = some z /\ SRel ρ ν r z := by
  unfold slen at h
  split at h
  · rename_i n e hu
    cases h
    exact ⟨_, by simp [alen, hu]; rfl, .int _ _⟩
  · rename_i s hu
    cases ha
    rw [forceN_eq] at h
    cases h
    refine ⟨_, by simp [alen, hu]; rfl, ?_⟩
    rw [strOf_size]
    exact .int _ (.lit _)
  · rename_i e n k b hu
    cases ha; cases h
    exact ⟨_, by simp [alen, hu]; rfl, .int _ (.lit _)⟩
  · rename_i e n off len sz hu
    cases ha; cases h
    exact ⟨_, by simp [alen, hu]; rfl, .int _ (.lit _)⟩
  · rename_i e m len cells hu
    cases ha; cases h
    exact ⟨_, by simp [alen, hu]; rfl, .int _ (.lit _)⟩
  · rename_i p hu
    split at h
    · rename_i n e hp
      cases h
      exact ⟨_, by simp [alen, hu, hp]; rfl, .int _ (.lit _)⟩
    · cases h
  · cases h
end Go.Proofs.YtjinjfblilacaaaGreat.Den
end
section
set_option linter.unusedSimpArgs false
namespace Go.Proofs.YtjinjfblilacaaaGreat.Den
variable {P : Program} {ρ : Vals} {ν : Nat -> Option Name}
def Fre (ν : Nat -> Option Name) (nm : Name) : Prop := ∀ n s, ν n ≠ some (s ++ nm)
theorem Fre.here {nm : Name} (h : Fre ν nm) : ∀ n, ν n ≠ some nm := fun n => h n []
/-- A value and a memory, behind a step that names new rows under a name alone. -/
def Out (ρ : Vals) (ν : Nat -> Option Name) (nm : Name) (r : SV) (h : Mem) (z : AV) (H : AHeap) : Prop :=
  ∃ ν', Nu.le ν ν' /\ (∀ n m, ν' n = some m -> ν n = some m \/ Under nm m) /\ MRel ρ ν' h H /\ SRel ρ ν' r z
theorem Out.same {nm : Name} {r : SV} {h : Mem} {z : AV} {H : AHeap} (hm : MRel ρ ν h H) (hr : SRel ρ ν r z) : Out ρ ν nm r h z H :=
  ⟨ν, fun _ _ h => h, fun _ _ h => .inl h, hm, hr⟩
theorem Out.push {nm : Name} {h : Mem} {H : AHeap} (hm : MRel ρ ν h H) (hf : Fre ν nm) {row : List SV} {row' : List AV} (hr : SRels ρ ν row row') {r : SV} {z : AV} (hz : ∀ ν', ν' h.next = some nm -> SRel ρ ν' r z) :
    Out ρ ν nm r (h.push row) z (upd H nm (some row')) := by
  refine ⟨nset ν h.next nm, hm.le_nset nm, ?_, hm.push hf.here hr, hz _ (by simp [nset])⟩
  intro n m hn
  unfold nset at hn
  split at hn
  · cases hn; exact .inr ⟨[], rfl⟩
  · exact .inl hn
theorem bytes_rel : ∀ (l : List IE), l.all IE.isByte = true -> SRels ρ ν (l.map fun b => SV.int .u8 b) ((strOf ρ l).data.toList.map fun b => AV.val (.int .u8 b.toNat)) := by
  intro l
  induction l with
  | nil => intro _; exact .nil
  | cons e l ih =>
    intro h
    simp only [List.all_cons, Bool.and_eq_true] at h
    have hb := isByte_ok (ρ := ρ) h.1
    have := ih h.2
    simp only [strOf, List.map_cons, List.toList_toArray] at this ⊢
    refine .cons ?_ this
    have e2 : ((UInt8.ofNat (e.den ρ).toNat).toNat : Int) = e.den ρ := by
      rw [UInt8.toNat_ofNat_of_lt' (by have : UInt8.size = 256 := rfl; omega)]; omega
    rw [e2]
    exact .int _ e
theorem ssrc_ok {h : Mem} {H : AHeap} (hm : MRows ρ ν h H) {size : Nat} {a : SV} {x : AV} (ha : SRel ρ ν a x) {k : Nat} {l : List SV} (hs : ssrc h size a = some (k, l)) : ∃ xs, srcCells H size x = some (k, xs) /\ SRels ρ ν l xs := by
  unfold ssrc at hs
  split at hs
  · cases ha; cases hs
    exact ⟨[], by simp [srcCells], .nil⟩
  · rename_i s
    cases ha
    cases hc : (Nat.beq size 1 && s.all IE.isByte) with
    | false => rw [hc] at hs; cases hs
    | true =>
      rw [hc] at hs
      simp only [cond_true, Option.some.injEq, Prod.mk.injEq] at hs
      obtain ⟨rfl, rfl⟩ := hs
      simp only [Bool.and_eq_true] at hc
      exact ⟨_, by simp [srcCells, Nat.eq_of_beq_eq_true hc.1, strOf_size]; rfl, by simpa using bytes_rel s hc.2⟩
  · rename_i n off len sz
    cases ha with
    | @sl _ _ _ _ m hn =>
      cases hc : Nat.beq sz size with
      | false => rw [hc] at hs; cases hs
      | true =>
        rw [hc] at hs
        simp only [cond_true, Option.bind_eq_some_iff, Option.map_eq_some_iff] at hs
        obtain ⟨row, h1, l', h2, h3⟩ := hs
        cases h3
        obtain ⟨m', row', h3, h4, h5⟩ := hm n row h1
        rw [hn] at h3; cases h3
        obtain ⟨h6, h7⟩ := h5.seg h2
        exact ⟨_, by simp [srcCells, Nat.eq_of_beq_eq_true hc, h4, h7], h6⟩
  · rename_i m len cells
    cases ha with
    | @im _ _ _ c' hcs =>
      cases hc : Nat.beq cells.length (len * size) with
      | false => rw [hc] at hs; cases hs
      | true =>
        rw [hc] at hs
        cases hs
        exact ⟨c', by simp [srcCells, <- hcs.length, Nat.eq_of_beq_eq_true hc], hcs⟩
  · cases hs
theorem sappend_ok {h h' : Mem} {H : AHeap} (hm : MRel ρ ν h H) {nm : Name} (hf : Fre ν nm) {t xt : TypeId} {a b r : SV} {x y : AV} (ha : SRel ρ ν a x) (hb : SRel ρ ν b y) (hr : sappend P t xt a b h = some (r, h')) :
    ∃ z H', aappend P t xt x y nm H = some (z, H') /\ Out ρ ν nm r h' z H' := by
  unfold sappend at hr
  split at hr
  · rename_i e d hu hxu
    split at hr
    · rename_i i hi
      split at hr
      · rename_i zv k new hz hs
        obtain ⟨xs, hs', hxs⟩ := ssrc_ok hm.rows hb hs
        cases hc : (seqD d && Nat.beq zv.cells.size i.size && new.all SV.one && Nat.beq new.length (k * i.size)) with
        | false => rw [hc] at hr; cases hr
        | true =>
          rw [hc] at hr
          simp only [cond_true] at hr
          simp only [Bool.and_eq_true] at hc
          obtain ⟨⟨⟨c1, c2⟩, c3⟩, c4⟩ := hc
          have c2 := Nat.eq_of_beq_eq_true c2
          have c4 := Nat.eq_of_beq_eq_true c4
          rw [hxs.length] at c4
          have c3 := sall_one hxs c3
          split at hr
          · cases ha
            cases hk : Nat.beq k 0 with
            | true =>
              rw [hk] at hr
              cases hr
              exact ⟨_, _, by simp [aappend, hu, hxu, hi, hz, hs', c1, c2, c3, c4, Nat.eq_of_beq_eq_true hk], .same hm (.val _)⟩
            | false =>
              rw [hk] at hr
              have hk0 : k ≠ 0 := by rintro rfl; simp at hk
              cases hl : (Nat.ble (k * i.bytes) 140737488355328 && Nat.ble k 140737488355328) with
              | false => rw [hl] at hr; cases hr
              | true =>
                rw [hl] at hr
                simp only [cond_true, cond_false, forceN_eq, Option.some.injEq, Prod.mk.injEq] at hr
                obtain ⟨rfl, rfl⟩ := hr
                simp only [Bool.and_eq_true] at hl
                exact ⟨_, _, by simp [aappend, hu, hxu, hi, hz, hs', c1, c2, c3, c4, hk0, Nat.le_of_ble_eq_true hl.1, Nat.le_of_ble_eq_true hl.2], .push hm hf hxs fun ν' hn => .sl hn⟩
          · rename_i n off len sz
            cases ha with
            | @sl _ _ _ _ m hn =>
              simp only [Option.bind_eq_some_iff] at hr
              obtain ⟨row, h1, old, h2, hr⟩ := hr
              obtain ⟨m', row', h3, h4, h5⟩ := hm.rows n row h1
              rw [hn] at h3; cases h3
              obtain ⟨h6, h7⟩ := h5.seg h2
              cases hl : (Nat.beq sz i.size && Nat.ble ((len + k) * i.bytes) 140737488355328 && Nat.ble (len + k) 140737488355328) with
              | false => rw [hl] at hr; cases hr
              | true =>
                rw [hl] at hr
                simp only [cond_true, forceN_eq, Option.some.injEq, Prod.mk.injEq] at hr
                obtain ⟨rfl, rfl⟩ := hr
                simp only [Bool.and_eq_true] at hl
                obtain ⟨⟨l1, l2⟩, l3⟩ := hl
                have l1 := Nat.eq_of_beq_eq_true l1
                refine ⟨_, _, ?_, .push (h := h.drop n) (hm.drop hn) hf (h6.append hxs) fun ν' hn => .sl hn⟩
                have : (aappend P t xt (.sl m off len sz) y nm H) = some (.sl nm 0 (len + k) sz, upd (upd H m none) nm (some ((row'.drop off).take (len * sz) ++ xs))) := by
                  unfold aappend
                  simp only [hu, hxu, hi, hz, hs']
                  rw [if_pos ⟨c1, c2, c3, c4⟩]
                  simp only [h4, Option.bind_some]
                  rw [if_pos ⟨l1, h7, Nat.le_of_ble_eq_true l2, Nat.le_of_ble_eq_true l3⟩]
                exact this
          · rename_i m len cells
            cases ha with
            | im hcs =>
              cases hk : Nat.beq k 0 with
              | false => rw [hk] at hr; cases hr
              | true =>
                rw [hk] at hr
                cases hr
                refine ⟨.im m len _, H, ?_, .same hm (.im hcs)⟩
                unfold aappend
                simp only [hu, hxu, hi, hz, hs']
                rw [if_pos ⟨c1, c2, c3, c4⟩]
                rw [if_pos (Nat.eq_of_beq_eq_true hk)]
          · cases hr
      · cases hr
    · cases hr
  · cases hr
theorem scopy_ok {h h' : Mem} {H : AHeap} (hm : MRel ρ ν h H) {t : TypeId} {a b r : SV} {x y : AV} (ha : SRel ρ ν a x) (hb : SRel ρ ν b y) (hr : scopy P t a b h = some (r, h')) :
    ∃ z H', acopy P t x y H = some (z, H') /\ MRel ρ ν h' H' /\ SRel ρ ν r z := by
  unfold scopy at hr
  split at hr
  · rename_i e n off len sz hu
    split at hr
    · rename_i s row k new hs hrow hsrc
      obtain ⟨xs, hs', hxs⟩ := ssrc_ok hm.rows hb hsrc
      cases ha with
      | @sl _ _ _ _ m hn =>
        obtain ⟨m', row', h3, h4, h5⟩ := hm.rows n row hrow
        rw [hn] at h3; cases h3
        cases hc : (Nat.beq s sz && Nat.beq new.length (k * sz) && new.all SV.one) with
        | false => rw [hc] at hr; cases hr
        | true =>
          rw [hc] at hr
          simp only [cond_true, Option.map_eq_some_iff] at hr
          obtain ⟨row₂, h6, hr⟩ := hr
          cases hr
          simp only [Bool.and_eq_true] at hc
          obtain ⟨⟨c1, c2⟩, c3⟩ := hc
          have c1 := Nat.eq_of_beq_eq_true c1
          have c2 := Nat.eq_of_beq_eq_true c2
          rw [hxs.length] at c2
          obtain ⟨h7, h8⟩ := sset_rel h6 (hxs.take (min k len * sz)) h5
          have hlen : (xs.take (min k len * sz)).length = min k len * sz := by
            rw [List.length_take, c2]
            have : min k len * sz <= k * sz := Nat.mul_le_mul_right _ (Nat.min_le_left _ _)
            omega
          rw [hlen] at h8
          refine ⟨.val (.int .i64 (min k len : Nat)), upd H m (some (setMany row' off (xs.take (min k len * sz)))), ?_, hm.set hn h7, .int _ (.lit _)⟩
          unfold acopy
          simp only [hu, hs, h4, hs']
          rw [if_pos ⟨c1, c2, sall_one hxs c3, h8⟩]
    · cases hr
  · cases hr
end Go.Proofs.YtjinjfblilacaaaGreat.Den
end
section
set_option linter.unusedSimpArgs false
namespace Go.Proofs.YtjinjfblilacaaaGreat.Den
variable {P : Program} {ρ : Vals} {ν : Nat -> Option Name}
/-- Two optional things that belong to each other. -/
def ORel (ρ : Vals) (ν : Nat -> Option Name) : Option SV -> Option AV -> Prop
  | none, none => True
  | some a, some x => SRel ρ ν a x
  | _, _ => False
theorem sbound_ok {d : Nat} {a : Option SV} {x : Option AV} (h : ORel ρ ν a x) {n : Nat} (hn : sbound d a = some n) : boundOf d x = some n := by
  cases a with
  | none =>
    cases x with
    | none => exact hn
    | some x => exact h.elim
  | some a =>
    cases x with
    | none => exact h.elim
    | some x => exact snat_rel h hn
theorem strOf_extract (l : List IE) (a b : Nat) (_ : a <= b) : (strOf ρ l).extract a b = strOf ρ ((l.drop a).take (b - a)) := by
  apply ByteArray.ext
  apply Array.ext'
  simp [strOf, ByteArray.data_extract, List.extract_eq_take_drop, List.map_take, List.map_drop]
theorem sslice_ok {t : TypeId} {a r : SV} {x : AV} {lo hi : Option SV} {lo' hi' : Option AV} {H : AHeap} (ha : SRel ρ ν a x) (hl : ORel ρ ν lo lo') (hh : ORel ρ ν hi hi') (h : sslice P t a lo hi = some r) :
    ∃ z, aslice P t x lo' hi' H = some z /\ SRel ρ ν r z := by
  unfold sslice at h
  split at h
  · rename_i s
    cases ha
    split at h
    · rename_i l k h1 h2 hu
      cases hc : (Nat.ble l k && Nat.ble k s.length) with
      | false => rw [hc] at h; cases h
      | true =>
        rw [hc] at h
        cases h
        simp only [Bool.and_eq_true] at hc
        have c1 := Nat.le_of_ble_eq_true hc.1
        have c2 := Nat.le_of_ble_eq_true hc.2
        rw [<- strOf_size (ρ := ρ)] at h2 c2
        refine ⟨.val (.string ((strOf ρ s).extract l k)), ?_, ?_⟩
        · simp only [aslice, sbound_ok hl h1, sbound_ok hh h2, hu]
          rw [if_pos ⟨c1, c2⟩]
        · rw [strOf_extract _ _ _ c1]; exact .str _
    · cases h
  · cases ha
    split at h
    · rename_i e h1 h2 hu
      cases hc : (szOf P e).isSome with
      | false => rw [hc] at h; cases h
      | true =>
        rw [hc] at h
        cases h
        refine ⟨_, ?_, .val _⟩
        simp only [aslice, sbound_ok hl h1, sbound_ok hh h2, hu]
        rw [if_pos hc]
    · cases h
  · rename_i n off len sz
    cases ha with
    | @sl _ _ _ _ m hn =>
      split at h
      · rename_i l k e h1 h2 hu
        cases hc : (decide (szOf P e = some sz) && Nat.ble l k && Nat.ble k len) with
        | false => rw [hc] at h; cases h
        | true =>
          rw [hc] at h
          simp only [cond_true] at h
          simp only [Bool.and_eq_true, decide_eq_true_eq] at hc
          obtain ⟨⟨c1, c2⟩, c3⟩ := hc
          have c2 := Nat.le_of_ble_eq_true c2
          have c3 := Nat.le_of_ble_eq_true c3
          have e : aslice P t (.sl m off len sz) lo' hi' H = (if l = 0 then some (.sl m off k sz) else if l = k then some (.im true 0 []) else some (.sl m (off + l * sz) (k - l) sz)) := by
            simp only [aslice, sbound_ok hl h1, sbound_ok hh h2, hu]
            rw [if_pos ⟨c1, c2, c3⟩]
          rw [e]
          cases hz : Nat.beq l 0 with
          | true =>
            rw [hz] at h; cases h
            rw [if_pos (Nat.eq_of_beq_eq_true hz)]
            exact ⟨_, rfl, .sl hn⟩
          | false =>
            rw [hz] at h
            rw [if_neg (by rintro rfl; simp at hz)]
            simp only [cond_false] at h
            cases hk : Nat.beq l k with
            | true =>
              rw [hk] at h; cases h
              rw [if_pos (Nat.eq_of_beq_eq_true hk)]
              exact ⟨_, rfl, .im .nil⟩
            | false =>
              rw [hk] at h
              rw [if_neg (by rintro rfl; simp at hk)]
              simp only [cond_false, forceN_eq, Option.some.injEq] at h
              subst h
              exact ⟨_, rfl, .sl hn⟩
      · cases h
  · rename_i m len cells
    cases ha with
    | @im _ _ _ c' hcs =>
      split at h
      · rename_i l k e h1 h2 hu
        split at h
        · rename_i sz hsz
          cases hc : (Nat.ble l k && Nat.ble k len && Nat.beq cells.length (len * sz)) with
          | false => rw [hc] at h; cases h
          | true =>
            rw [hc] at h
            simp only [cond_true] at h
            simp only [Bool.and_eq_true] at hc
            obtain ⟨⟨c1, c2⟩, c3⟩ := hc
            have c1 := Nat.le_of_ble_eq_true c1
            have c2 := Nat.le_of_ble_eq_true c2
            have c3 := Nat.eq_of_beq_eq_true c3
            rw [hcs.length] at c3
            have e : aslice P t (.im m len c') lo' hi' H = (if l = k then some (.im m 0 []) else some (.im m (k - l) ((c'.drop (l * sz)).take ((k - l) * sz)))) := by
              simp only [aslice, sbound_ok hl h1, sbound_ok hh h2, hu, hsz]
              rw [if_pos ⟨c1, c2, c3⟩]
            rw [e]
            cases hk : Nat.beq l k with
            | true =>
              rw [hk] at h; cases h
              rw [if_pos (Nat.eq_of_beq_eq_true hk)]
              exact ⟨_, rfl, .im .nil⟩
            | false =>
              rw [hk] at h
              rw [if_neg (by rintro rfl; simp at hk)]
              simp only [cond_false, forceN_eq, Option.some.injEq] at h
              subst h
              exact ⟨_, rfl, .im ((hcs.drop _).take _)⟩
        · cases h
      · cases h
  · cases h
theorem sindex_ok {t : TypeId} {a i r : SV} {x y : AV} (ha : SRel ρ ν a x) (hi : SRel ρ ν i y) (h : sindex P t a i = some r) : ∃ z, aindex P t x y = some z /\ SRel ρ ν r z := by
  unfold sindex at h
  split at h
  · rename_i j l len e hj hu
    cases ha with
    | agg hl =>
      simp only [Option.bind_eq_some_iff] at h
      obtain ⟨sz, h1, h⟩ := h
      cases hc : Nat.blt j len with
      | false => rw [hc] at h; cases h
      | true =>
        rw [hc] at h
        obtain ⟨z, h2, h3⟩ := spart_ok hl h
        exact ⟨z, by simp [aindex, snat_rel hi hj, hu, h1, blt_lt hc, h2], h3⟩
  · rename_i j s hj hu
    cases ha
    simp only [Option.bind_eq_some_iff] at h
    obtain ⟨b, h1, h⟩ := h
    cases hc : b.isByte with
    | false => rw [hc] at h; cases h
    | true =>
      rw [hc] at h
      cases h
      have hb := isByte_ok (ρ := ρ) hc
      have e2 : ((UInt8.ofNat (b.den ρ).toNat).toNat : Int) = b.den ρ := by
        rw [UInt8.toNat_ofNat_of_lt' (by have : UInt8.size = 256 := rfl; omega)]; omega
      refine ⟨.val (.int .u8 (b.den ρ)), ?_, .int _ b⟩
      simp only [aindex, snat_rel hi hj, hu]
      have : (strOf ρ s).data[j]? = some (UInt8.ofNat (b.den ρ).toNat) := by simp [strOf, h1]
      rw [this]
      simp only [Option.map_some, e2]
  · cases h
theorem sfill_ok {place : Nat -> Option (Nat × Nat)} : ∀ {ps : List (Nat × SV)} {qs : List (Nat × AV)} {l r : List SV} {xs : List AV}, ps.map (·.1) = qs.map (·.1) -> SRels ρ ν (ps.map (·.2)) (qs.map (·.2)) -> SRels ρ ν l xs -> sfill place l ps = some r ->
    ∃ zs, fillA place xs qs = some zs /\ SRels ρ ν r zs := by
  intro ps
  induction ps with
  | nil =>
    intro qs l r xs h1 h2 hl h
    cases qs with
    | nil => simp only [sfill, Option.some.injEq] at h; subst h; exact ⟨xs, rfl, hl⟩
    | cons q qs => simp at h1
  | cons p ps ih =>
    intro qs l r xs h1 h2 hl h
    cases qs with
    | nil => simp at h1
    | cons q qs =>
      obtain ⟨i, v⟩ := p
      obtain ⟨j, y⟩ := q
      simp only [List.map_cons, List.cons.injEq] at h1
      obtain ⟨rfl, h1⟩ := h1
      simp only [List.map_cons] at h2
      cases h2 with
      | cons hv h2 =>
        simp only [sfill] at h
        split at h
        · cases h
        · rename_i off size hp
          cases hc : Nat.beq v.cells.length size with
          | false => rw [hc] at h; cases h
          | true =>
            rw [hc] at h
            simp only [cond_true, Option.bind_eq_some_iff] at h
            obtain ⟨c, h3, h4⟩ := h
            have hcr := scells_rel hv
            obtain ⟨h5, h6⟩ := sset_rel h3 hcr hl
            obtain ⟨zs, h7, h8⟩ := ih h1 h2 h5 h4
            refine ⟨zs, ?_, h8⟩
            have c1 := Nat.eq_of_beq_eq_true hc
            rw [hcr.length] at c1
            simp only [fillA, hp]
            rw [if_neg (by omega)]
            exact h7
theorem szeros_ok {t : TypeId} {z : List SV} (h : szeros P t = some z) : ∃ zs, zeroCellsA P t = some zs /\ SRels ρ ν z zs := by
  simp only [szeros, Option.map_eq_some_iff] at h
  obtain ⟨v, h1, rfl⟩ := h
  exact ⟨v.cells.toList.map .val, by simp [zeroCellsA, h1], sconsts_rel v.cells.toList⟩
theorem srow_ok {z : List SV} {zs : List AV} (h : SRels ρ ν z zs) : ∀ n, SRels ρ ν (srow z n) (rowOf zs n)
  | 0 => .nil
  | n + 1 => h.append (srow_ok h n)
theorem sbytes_ok : ∀ {l : List SV} {xs : List AV} {es : List IE}, SRels ρ ν l xs -> sbytes l = some es -> ∃ bs, bytesA xs = some bs /\ strOf ρ es = ⟨bs.toArray⟩ := by
  intro l
  induction l with
  | nil => intro xs es h hs; cases h; simp only [sbytes, Option.some.injEq] at hs; subst hs; exact ⟨[], rfl, rfl⟩
  | cons a l ih =>
    intro xs es h hs
    cases h with
    | cons h t =>
      cases a with
      | int k e =>
        cases k with
        | u8 =>
          simp only [sbytes] at hs
          cases hc : e.isByte with
          | false => rw [hc] at hs; cases hs
          | true =>
            rw [hc] at hs
            simp only [cond_true, Option.map_eq_some_iff] at hs
            obtain ⟨es', h1, rfl⟩ := hs
            obtain ⟨bs, h2, h3⟩ := ih t h1
            have hb := isByte_ok (ρ := ρ) hc
            cases h
            refine ⟨UInt8.ofNat (e.den ρ).toNat :: bs, ?_, ?_⟩
            · simp only [bytesA]; rw [if_pos hb, h2]; rfl
            · have h4 : (es'.map fun e => UInt8.ofNat (e.den ρ).toNat) = bs := by
                have := congrArg (fun b : ByteArray => b.data.toList) h3
                simpa [strOf] using this
              simp [strOf, h4]
        | _ => simp [sbytes] at hs
      | _ => simp [sbytes] at hs
end Go.Proofs.YtjinjfblilacaaaGreat.Den
end
section
set_option linter.unusedSimpArgs false
namespace Go.Proofs.YtjinjfblilacaaaGreat.Den
variable {P : Program} {ρ : Vals} {ν : Nat -> Option Name}
theorem strOf_toList (l : List IE) : (strOf ρ l).toList = l.map fun e => UInt8.ofNat (e.den ρ).toNat := by
  rw [ByteArray.toList_eq]; simp [strOf]
theorem litStr_ok : ∀ {l : List IE} {bs : List UInt8}, litStr l = some bs -> l.map (fun e => UInt8.ofNat (e.den ρ).toNat) = bs := by
  intro l
  induction l with
  | nil => intro bs h; simp only [litStr, Option.some.injEq] at h; subst h; rfl
  | cons e l ih =>
    intro bs h
    cases e with
    | lit n =>
      simp only [litStr] at h
      cases hc : (decide (0 <= n) && decide (n < 256)) with
      | false => rw [hc] at h; cases h
      | true =>
        rw [hc] at h
        simp only [cond_true, Option.map_eq_some_iff] at h
        obtain ⟨r, h1, rfl⟩ := h
        simp [IE.den, ih h1]
    | _ => simp [litStr] at h
theorem litCells_ok : ∀ {l : List SV} {xs : List AV} {vs : List Value}, SRels ρ ν l xs -> litCells l = some vs -> allVals xs = some vs := by
  intro l
  induction l with
  | nil => intro xs vs h hs; cases h; simp only [litCells, Option.some.injEq] at hs; subst hs; rfl
  | cons a l ih =>
    intro xs vs h hs
    cases h with
    | cons h t =>
      cases h with
      | int k e =>
        cases e with
        | lit n =>
          simp only [litCells, Option.map_eq_some_iff] at hs
          obtain ⟨r, h1, rfl⟩ := hs
          simp [allVals, ih t h1, IE.den]
        | _ => simp [litCells] at hs
      | bool b =>
        simp only [litCells, Option.map_eq_some_iff] at hs
        obtain ⟨r, h1, rfl⟩ := hs
        simp [allVals, ih t h1]
      | str s =>
        simp only [litCells, Option.bind_eq_some_iff, Option.map_eq_some_iff] at hs
        obtain ⟨bs, h0, r, h1, rfl⟩ := hs
        simp [allVals, ih t h1, strOf, litStr_ok (ρ := ρ) h0]
      | val v =>
        simp only [litCells, Option.map_eq_some_iff] at hs
        obtain ⟨r, h1, rfl⟩ := hs
        simp [allVals, ih t h1]
      | _ => simp [litCells] at hs
theorem toVal_ok {a : SV} {x : AV} (h : SRel ρ ν a x) {v : Value} (hv : a.toVal? = some v) : x.toVal? = some v := by
  cases h with
  | int k e =>
    cases e with
    | lit n => simp only [SV.toVal?, Option.some.injEq] at hv; subst hv; simp [AV.toVal?, IE.den]
    | _ => simp [SV.toVal?] at hv
  | bool b => simp only [SV.toVal?, Option.some.injEq] at hv; subst hv; rfl
  | str l =>
    simp only [SV.toVal?, Option.map_eq_some_iff] at hv
    obtain ⟨bs, h0, rfl⟩ := hv
    simp [AV.toVal?, strOf, litStr_ok (ρ := ρ) h0]
  | val v' => simp only [SV.toVal?, Option.some.injEq] at hv; subst hv; rfl
  | agg hl =>
    simp only [SV.toVal?, Option.map_eq_some_iff] at hv
    obtain ⟨vs, h0, rfl⟩ := hv
    simp [AV.toVal?, litCells_ok hl h0]
  | _ => simp [SV.toVal?] at hv
/-- Numbers that strings are made of are bytes. -/
theorem eqEs_ok {Γ : List Fact} (hF : FOk ρ Γ) : ∀ {l r : List IE} {b : Bool}, l.all IE.isByte = true -> r.all IE.isByte = true -> eqEs Γ l r = some b -> ((strOf ρ l).toList == (strOf ρ r).toList) = b := by
  intro l
  induction l with
  | nil =>
    intro r b _ _ h
    cases r with
    | nil => simp only [eqEs, Option.some.injEq] at h; subst h; simp
    | cons y r => simp only [eqEs, Option.some.injEq] at h; subst h; simp [strOf_toList]
  | cons a l ih =>
    intro r b hl hr h
    cases r with
    | nil => simp only [eqEs, Option.some.injEq] at h; subst h; simp [strOf_toList]
    | cons y r =>
      simp only [List.all_cons, Bool.and_eq_true] at hl hr
      have ha := isByte_ok (ρ := ρ) hl.1
      have hy := isByte_ok (ρ := ρ) hr.1
      simp only [eqEs] at h
      split at h
      · rename_i h1
        have := cmpE_ok hF h1
        simp only [cmpI, Option.some.injEq, beq_iff_eq] at this
        have h2 := ih hl.2 hr.2 h
        simp only [strOf_toList, List.map_cons, this] at h2 ⊢
        rw [List.cons_beq_cons, h2]; simp
      · rename_i h1
        have := cmpE_ok hF h1
        simp only [cmpI, Option.some.injEq, beq_eq_false_iff_ne, ne_eq] at this
        cases h
        simp only [strOf_toList, List.map_cons]
        have hne : UInt8.ofNat (a.den ρ).toNat ≠ UInt8.ofNat (y.den ρ).toNat := by
          intro e
          have := congrArg UInt8.toNat e
          rw [UInt8.toNat_ofNat_of_lt' (by have : UInt8.size = 256 := rfl; omega), UInt8.toNat_ofNat_of_lt' (by have : UInt8.size = 256 := rfl; omega)] at this
          omega
        rw [List.cons_beq_cons]
        simp [hne]
      · cases h
theorem nilEq_ok {a : SV} {x : AV} (h : SRel ρ ν a x) {v : Value} {d : Option TypeDesc} {r : Bool} (hr : a.nilEq v d = some r) : x.nilEq v d = some r := by
  unfold SV.nilEq at hr
  split at hr <;> first | (cases h <;> exact hr) | cases hr
end Go.Proofs.YtjinjfblilacaaaGreat.Den
end
