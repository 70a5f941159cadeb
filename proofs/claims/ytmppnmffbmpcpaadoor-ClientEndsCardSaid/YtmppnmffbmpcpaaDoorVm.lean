/- A small abstract machine over the dump's code: the definitions. Plain Lean: nothing here is proved yet. -/
import Derived.Orders
import Derived.Below
namespace Go.Vm
open Go.RowKit

/-- No aggregate, no tuple, no truth value. -/
def Scal (v : Value) : Prop := (∀ cs, v ≠ .agg cs) ∧ (∀ cs, v ≠ .tuple cs) ∧ ∀ b, v ≠ .bool b

/-- Whatever else can be said of a value, by the cells that are never written again and by what the package's variables hold. -/
structure SemP where
  R : (Addr → Option Value) → (Nat → Value) → (Nat → Value) → Value → Prop
  mono : ∀ {K K' : Addr → Option Value} {U V : Nat → Value} {y : Value}, (∀ a v, K a = some v → K' a = some v) → R K U V y → R K' U V y
  scal : ∀ {K : Addr → Option Value} {U V : Nat → Value} {y : Value}, R K U V y → Scal y

/-- Abstract values: 'v x' is exactly the value x; 'sl' a slice whose cells are known and never written again; 'ref' a slice of a
block that may be written; 'ep' the address of cells that are never written again; 'ptr' the address of a cell of a block that may be written;
'u i' the error that stands in package-level variable i; 'x i' a value of which only the facts that are listed are known. -/
inductive AV where
  | v (x : Value)
  | agg (cs : List AV)
  | tup (vs : List AV)
  | sl (cells : List AV) (es n : Nat) (cap : Option Nat) (own : Option Nat)
  | ref (i off es n : Nat) (cap : Option Nat)
  | ep (cells : List AV)
  | ptr (i off : Nat)
  | fn (f : Fn) (first captured : List AV)
  | mp (i : Nat)
  | u (i : Nat)
  | x (i : Nat)
  | sem (p : SemP)
  deriving Inhabited

mutual
def AV.flat : AV → Option Value
  | .v x => some x
  | .agg cs => (flatL cs).map fun l => .agg l.toArray
  | .tup cs => (flatL cs).map fun l => .tuple l.toArray
  | .fn f a b => (flatL a).bind fun x => (flatL b).map fun y => .func f x.toArray y.toArray
  | .sl .. | .ref .. | .ep _ | .ptr .. | .mp _ | .u _ | .x _ | .sem _ => none
def flatL : List AV → Option (List Value)
  | [] => some []
  | a :: r => a.flat.bind fun x => (flatL r).map (x :: ·)
end

mutual
def vbeq : Value → Value → Bool
  | .bool a, .bool b => a == b
  | .int k a, .int l b => k == l && a == b
  | .float k a, .float l b => k == l && a == b
  | .string a, .string b => a.data.toList == b.data.toList
  | .pointer a, .pointer b => a == b
  | .slice a n c, .slice b m d => a == b && n == m && c == d
  | .map a, .map b => a == b
  | .nilFunc, .nilFunc => true
  | .nilIface, .nilIface => true
  | .iface t a, .iface u b => t == u && vbeq a b
  | .agg ⟨a⟩, .agg ⟨b⟩ => vbeqL a b
  | .tuple ⟨a⟩, .tuple ⟨b⟩ => vbeqL a b
  | _, _ => false
def vbeqL : List Value → List Value → Bool
  | [], [] => true
  | a :: r, b :: s => vbeq a b && vbeqL r s
  | _, _ => false
end

mutual
def AV.beq : AV → AV → Bool
  | .v a, .v b => vbeq a b
  | .agg a, .agg b => beqL a b
  | .tup a, .tup b => beqL a b
  | .sl a e n c o, .sl b e' n' c' o' => beqL a b && e == e' && n == n' && c == c' && o == o'
  | .ref i f e n c, .ref i' f' e' n' c' => i == i' && f == f' && e == e' && n == n' && c == c'
  | .ep a, .ep b => beqL a b
  | .ptr i f, .ptr i' f' => i == i' && f == f'
  | .mp i, .mp j => i == j
  | .u i, .u j => i == j
  | .x i, .x j => i == j
  | _, _ => false
def beqL : List AV → List AV → Bool
  | [], [] => true
  | a :: r, b :: s => a.beq b && beqL r s
  | _, _ => false
end

/-- One cell after another. -/
def AV.cells : AV → List AV
  | .v (.agg cs) => cs.toList.map .v
  | .agg cs => cs
  | a => [a]

/-- May it stand in one cell? -/
def AV.one : AV → Bool
  | .v (.agg _) | .v (.tuple _) | .agg _ | .tup _ => false
  | _ => true

/-- Abstract blocks: 'wr' is just these cells (or, if 'part', begins with them); 'frz' is never written again; 'tok' is an array whose cells behind a mark are free. -/
inductive AB where
  | dead
  | tok
  | wr (cells : List AV) (e : TypeId) (part : Bool)
  | frz (cells : List AV) (e : TypeId)
  | map (es : List (Value × AV × Nat)) (clock : Nat)
  deriving Inhabited
abbrev AM := List AB

def AB.alive : AB → Bool
  | .dead => false
  | _ => true

/-- What an operation or a call comes to. -/
inductive ARes where
  | ret (a : AV) (m : AM)
  | pan (x : Value) (m : AM)
  deriving Inhabited

/-- A run that asks nothing of the world. -/
def pureRun {α : Type} (P : Program) : Sem α → Option (α ⊕ Value)
  | .pure a => some (.inl a)
  | .program k => pureRun P (k P)
  | .mark _ k => pureRun P k
  | .halt (.panic v) => some (.inr v)
  | _ => none

/-- What an operation on two values comes to. -/
structure Fact where
  op : BinOp
  t : TypeId
  a : AV
  b : AV
  r : AV

abbrev ACall := FuncId → List AV → AM → Option ARes

structure Env where
  P : Program
  /-- The package-level variables that are known and never written. -/
  glob : Nat → Option (List Value)
  /-- The package-level variables that hold an error each: no two the same. -/
  sent : Nat → Bool
  facts : List Fact
  errT : TypeId
  /-- Contracts that are proved elsewhere. -/
  prim : FuncId → Option (ACall → List AV → AM → Option ARes)
  /-- In these functions 'append' hands back a slice that may be written. -/
  linear : FuncId → Bool
  /-- In these functions a slice literal may be written, and so may a slice of an array. -/
  lit : FuncId → Bool

variable (E : Env)

def tsize (t : TypeId) : Option Nat := (E.P.info? t).map (·.size)
def tbytes (t : TypeId) : Option Nat := (E.P.info? t).map (·.bytes)
def tagg (t : TypeId) : Option Bool := (E.P.underlying t).map fun d => match d with | .struct _ | .array _ _ => true | _ => false
def tzero (t : TypeId) : Option Value := (E.P.info? t).bind (·.zero)

def new (m : AM) (b : AB) : AM := m ++ [b]

/-- The first k of what stands at an address, as a value of type t. -/
def gather (t : TypeId) (cells : List AV) : Option AV :=
  match tagg E t, tsize E t with
  | some true, some s => if s ≤ cells.length then some (.agg (cells.take s)) else none
  | some false, some _ => cells.head?
  | _, _ => none

def cellsAt (m : AM) (i : Nat) : Option (List AV) :=
  match m[i]? with
  | some (.wr cells _ _) => some cells
  | some (.frz cells _) => some cells
  | _ => none

/-- The cells from an address on. -/
def behind (m : AM) : AV → Option (List AV)
  | .v (.pointer (some a)) => if a.spot.isSome then none else
    if E.sent a.block then (if a.off = 0 then some [.u a.block] else none) else (E.glob a.block).map fun cs => (cs.drop a.off).map .v
  | .ep cells => some cells
  | .ptr i off => (cellsAt m i).map (·.drop off)
  | _ => none

def aload (m : AM) (t : TypeId) (a : AV) : Option AV := (behind E m a).bind (gather E t)

/-- Cells written into a list from a place on. -/
def putAt (cells : List AV) (off : Nat) (xs : List AV) : List AV := cells.take off ++ xs ++ cells.drop (off + xs.length)

def astore (m : AM) (t : TypeId) (a x : AV) : Option AM :=
  match a with
  | .ptr i off =>
    match m[i]?, tsize E t with
    | some (.wr cells e p), some s =>
      if x.cells.length = s ∧ off + s ≤ cells.length ∧ x.cells.all AV.one = true then some (m.set i (.wr (putAt cells off x.cells) e p)) else none
    | _, _ => none
  | _ => none

/-- What a slice's elements are ('es': an element's cells). -/
def content (m : AM) (es : Nat) : AV → Option (List AV)
  | .v (.slice none 0 _) => some []
  | .sl cells es' n _ _ => if es' = es ∧ n * es ≤ cells.length then some (cells.take (n * es)) else none
  | .ref i off es' n _ => if es' = es then (cellsAt m i).bind fun cs => if off + n * es ≤ cs.length then some ((cs.drop off).take (n * es)) else none else none
  | _ => none

def byteVals (s : ByteArray) : List AV := s.data.toList.map fun b => .v (.int .u8 b.toNat)

/-- What is appended or copied. -/
def source (m : AM) (es : Nat) : AV → Option (List AV)
  | .v (.string s) => if es = 1 then some (byteVals s) else none
  | a => content m es a

def maxBytes : Nat := 140737488355328

def grow (lin : Bool) (m : AM) (e : TypeId) (es n : Nat) (cells : List AV) : ARes :=
  if lin then .ret (.ref m.length 0 es n none) (m ++ [.wr cells e true])
  else .ret (.sl cells es n none (some m.length)) (m ++ [.tok])

def aappend (lin : Bool) (m : AM) (sT : TypeId) (d x : AV) : Option ARes :=
  match E.P.underlying sT with
  | some (.slice e) =>
    match tsize E e, tbytes E e, tzero E e with
    | some es, some bytes, some z =>
      if es = 0 ∨ z.cells.size ≠ es then none else
      match source m es x with
      | none => none
      | some ys =>
        let k := ys.length / es
        if ys.length ≠ k * es ∨ ys.all AV.one = false then none else
        if k = 0 then (match d with | .v (.slice none 0 0) | .sl .. | .ref .. => some (.ret d m) | _ => none) else
        match d with
        | .v (.slice none 0 0) => if k * bytes ≤ maxBytes ∧ k ≤ maxLen then some (grow lin m e es k ys) else none
        | .sl cells es' n cap own =>
          if es' ≠ es ∨ cells.length < n * es ∨ (n + k) * bytes > maxBytes ∨ n + k > maxLen then none else
          match own with
          | some t =>
            match m[t]? with
            | some .tok => some (grow false (m.set t .dead) e es (n + k) (cells.take (n * es) ++ ys))
            | _ => none
          | none =>
            if cap = some n then some (grow lin m e es (n + k) (cells.take (n * es) ++ ys)) else none
        | .ref i off es' n cap =>
          match m[i]? with
          | some (.wr cells e' p) =>
            if es' ≠ es ∨ off + n * es > cells.length ∨ (n + k) * bytes > maxBytes ∨ n + k > maxLen then none else
            match cap with
            | some c =>
              if n + k ≤ c then
                if off + (n + k) * es ≤ cells.length then some (.ret (.ref i off es (n + k) cap) (m.set i (.wr (putAt cells (off + n * es) ys) e' p))) else none
              else some (grow lin m e es (n + k) ((cells.drop off).take (n * es) ++ ys))
            | none =>
              if off = 0 ∧ p = true ∧ e' = e then some (grow lin (m.set i .dead) e es (n + k) (cells.take (n * es) ++ ys)) else none
          | _ => none
        | _ => none
    | _, _, _ => none
  | _ => none

def acopy (m : AM) (dT : TypeId) (d x : AV) : Option ARes :=
  match E.P.underlying dT with
  | some (.slice e) =>
    match tsize E e with
    | some es =>
      if es = 0 then none else
      match source m es x, d with
      | some ys, .ref i off es' n _ =>
        let k := min (ys.length / es) n
        match m[i]? with
        | some (.wr cells e' p) =>
          if es' = es ∧ ys.length = ys.length / es * es ∧ off + n * es ≤ cells.length ∧ ys.all AV.one = true then
            some (.ret (.v (.int .i64 k)) (m.set i (.wr (putAt cells off (ys.take (k * es))) e' p)))
          else none
        | _ => none
      | _, _ => none
    | _ => none
  | _ => none

def asNat : AV → Option Nat
  | .v (.int _ n) => if 0 ≤ n then some n.toNat else none
  | _ => none

/-- The bounds l ≤ h ≤ m of a slice expression. -/
def abounds (len : Nat) (lo hi mx : Option AV) (cap : Option Nat) : Option (Nat × Nat × Option Nat) :=
  (match mx with | none => some none | some a => (asNat a).map some).bind fun m' =>
  (match hi with | none => some len | some a => asNat a).bind fun h =>
  (match lo with | none => some 0 | some a => asNat a).bind fun l =>
  if l ≤ h ∧ h ≤ m'.getD (cap.getD len) ∧ m'.getD 0 ≤ cap.getD len ∧ (mx.isNone = true ∨ hi.isSome = true) then
    some (l, h, match m' with | some k => some k | none => cap) else none

/-- The known cells from element l on, up to element mm. -/
def cut (cells : List AV) (es l : Nat) : Option Nat → List AV
  | some k => (cells.take (k * es)).drop (l * es)
  | none => cells.drop (l * es)

def aslice (lit : Bool) (m : AM) (t : TypeId) (x : AV) (lo hi mx : Option AV) : Option ARes :=
  match E.P.underlying t with
  | some (.slice e) =>
    match tsize E e with
    | some es =>
      match x with
      | .sl cells es' n cap own =>
        if es' ≠ es ∨ es = 0 ∨ cells.length < n * es then none else
        (abounds n lo hi mx cap).bind fun (l, h, mm) =>
        if h * es ≤ cells.length then
          some (.ret (.sl (cut cells es l mm) es (h - l) (mm.map (· - l))
            (if h = n ∧ mx.isNone = true ∧ (l = 0 ∨ l < h) then own else none)) m)
        else none
      | .ref i off es' n cap =>
        if es = 0 ∨ es' ≠ es then none else
        (abounds n lo hi mx cap).bind fun (l, h, mm) =>
        if l = 0 ∨ l < h then some (.ret (.ref i (off + l * es) es (h - l) (mm.map (· - l))) m)
        else some (.ret (.sl [] es 0 (mm.map (· - l)) none) m)
      | _ => none
    | _ => none
  | some (.array n e) =>
    match tsize E e, x with
    | some es, .ptr i off =>
      if es = 0 ∨ n > maxLen then none else
      (abounds n lo hi mx (some n)).bind fun (l, h, mm) =>
      if ¬ (l = 0 ∨ l < h) then some (.ret (.sl [] es 0 (mm.map (· - l)) none) m) else
      match m[i]? with
      | some (.wr cells e' p) =>
        if off + n * es ≤ cells.length then
          if lit then some (.ret (.ref i (off + l * es) es (h - l) (mm.map (· - l))) m)
          else if p then none
          else some (.ret (.sl (cut (cells.drop off) es l mm) es (h - l) (mm.map (· - l)) none) (m.set i (.frz cells e')))
        else none
      | some (.frz cells _) =>
        if off + n * es ≤ cells.length then some (.ret (.sl (cut (cells.drop off) es l mm) es (h - l) (mm.map (· - l)) none) m) else none
      | _ => none
    | _, _ => none
  | _ => none

def aindexAddr (t : TypeId) (x ix : AV) : Option AV :=
  match asNat ix, E.P.underlying t with
  | some k, some (.slice e) =>
    match tsize E e, x with
    | some es, .sl cells es' n _ _ => if es' = es ∧ 0 < es ∧ k < n ∧ n * es ≤ cells.length then some (.ep ((cells.drop (k * es)).take es)) else none
    | some es, .ref i off es' n _ => if es' = es ∧ k < n then some (.ptr i (off + k * es)) else none
    | _, _ => none
  | some k, some (.array n e) =>
    match tsize E e, x with
    | some es, .ptr i off => if k < n then some (.ptr i (off + k * es)) else none
    | some es, .ep cells => if k < n then some (.ep ((cells.drop (k * es)).take es)) else none
    | some es, .v (.pointer (some a)) => if 1 < n ∧ k < n ∧ a.spot = none then some (.v (.pointer (some (a.add (k * es))))) else none
    | _, _ => none
  | _, _ => none

def afieldAddr (t : TypeId) (x : AV) (f : Nat) : Option AV :=
  match E.P.underlying t with
  | some (.struct fs) =>
    match fs[f]? with
    | some fd =>
      match tsize E fd.type with
      | some s =>
        if s = 0 then none else
        match x with
        | .ptr i off => some (.ptr i (off + fd.offset))
        | .ep cells => some (.ep ((cells.drop fd.offset).take s))
        | _ => none
      | none => none
    | none => none
  | _ => none

def apart (t : TypeId) (cells : List AV) (off : Nat) : Option AV :=
  match tagg E t, tsize E t with
  | some true, some s => some (.agg ((cells.drop off).take s))
  | some false, some _ => cells[off]?
  | _, _ => none

def afield (t : TypeId) (x : AV) (f : Nat) : Option AV :=
  match E.P.underlying t, x with
  | some (.struct fs), .agg cs => (fs[f]?).bind fun fd => apart E fd.type cs fd.offset
  | _, _ => none

def aindex (t : TypeId) (x ix : AV) : Option AV :=
  match E.P.underlying t, x, asNat ix with
  | some (.array n e), .agg cs, some k => if k < n then (tsize E e).bind fun es => apart E e cs (k * es) else none
  | _, _, _ => none

def afill (place : Nat → Option (Nat × Nat)) (cells : List AV) : List (Nat × AV) → Option (List AV)
  | [] => some cells
  | (i, x) :: rest =>
    match place i with
    | none => none
    | some (off, size) =>
      if x.cells.length ≠ size ∨ off + size > cells.length then none
      else afill place (putAt cells off x.cells) rest

def abuild (t : TypeId) (parts : List (Nat × AV)) : Option AV :=
  match tzero E t, E.P.underlying t with
  | some z, some (.struct fs) =>
    if fs.toList.all (fun f => (tsize E f.type).isSome) = false then none else
    (afill (fun i => (fs[i]?).bind fun f => (tsize E f.type).map fun s => (f.offset, s)) (z.cells.toList.map .v) parts).map .agg
  | some z, some (.array _ e) =>
    (tsize E e).bind fun s => (afill (fun i => some (i * s, s)) (z.cells.toList.map .v) parts).map .agg
  | _, _ => none

def zeros (z : Value) (n : Nat) : List AV := (List.replicate n (z.cells.toList.map AV.v)).flatten

def isByte (e : TypeId) : Bool := match E.P.underlying e with | some (.int .u8) => true | _ => false

def abuildSlice (lit : Bool) (m : AM) (t : TypeId) (len : Nat) (parts : List (Nat × AV)) : Option ARes :=
  match E.P.underlying t with
  | some (.slice e) =>
    match tsize E e, tzero E e with
    | some s, some z =>
      if s = 0 ∨ z.cells.size ≠ s ∨ len * s > 16777216 then none else
      (afill (fun i => some (i * s, s)) (zeros z len) parts).map fun cells =>
        if lit then .ret (.ref m.length 0 s len (some len)) (m ++ [.wr cells e false])
        else if isByte E e then .ret (.sl cells s len (some len) (some m.length)) (m ++ [.tok])
        else .ret (.sl cells s len (some len) none) m
    | _, _ => none
  | _ => none

def amakeSlice (m : AM) (t : TypeId) (l c : AV) : Option ARes :=
  match E.P.underlying t, l, c with
  | some (.slice e), .v (.int .i64 l), .v (.int .i64 c) =>
    match tsize E e, tbytes E e, tzero E e with
    | some s, some b, some z =>
      if s = 0 ∨ z.cells.size ≠ s ∨ l < 0 ∨ c < l ∨ c > maxLen ∨ (b : Int) * c > 281474976710656 then none else
      some (.ret (.ref m.length 0 s l.toNat (some c.toNat)) (m ++ [.wr (zeros z c.toNat) e false]))
    | _, _, _ => none
  | _, _, _ => none

def bytesOf : List AV → Option (List UInt8)
  | [] => some []
  | .v (.int .u8 n) :: r => (bytesOf r).map (UInt8.ofNat n.toNat :: ·)
  | _ => none

def aconvert (m : AM) (s d : TypeId) (x : AV) : Option ARes :=
  match E.P.underlying s, E.P.underlying d, x with
  | some _, some (.slice e), .v (.string t) =>
    if isByte E e = true ∧ t.size ≤ maxLen then some (.ret (.sl (byteVals t) 1 t.size none (some m.length)) (m ++ [.tok])) else none
  | some (.slice e), some (.slice _), .sl cells es n cap (some t) =>
    if s = d ∧ isByte E e then some (.ret (.sl cells es n cap (some t)) m) else none
  | some (.slice e), some .string, x =>
    if isByte E e then
      ((content m 1 x).bind bytesOf).map fun l => .ret (.v (.string ⟨l.toArray⟩)) m
    else none
  | _, _, _ => none

/-- Where a key stands. -/
def keyAt (kt : TypeId) (k : Value) : List (Value × AV × Nat) → Nat → Option (Option Nat)
  | [], _ => some none
  | e :: r, i =>
    match pureRun E.P (Op.equal kt k e.1) with
    | some (.inl true) => some (some i)
    | some (.inl false) => keyAt kt k r (i + 1)
    | _ => none

def keyOk (empty : Bool) (kt : TypeId) (k : Value) : Bool :=
  match pureRun E.P (Instr.checkKey empty 10000 kt k) with
  | some (.inl ()) => true
  | _ => false

def alookup (m : AM) (t : TypeId) (x ix : AV) (ok : Bool) : Option AV :=
  match E.P.underlying t, ix.flat, x with
  | some (.map kt e), some k, .mp i =>
    match m[i]?, tzero E e with
    | some (.map es _), some z =>
      if keyOk E es.isEmpty kt k then
        (keyAt E kt k es 0).bind fun
          | some j => (es[j]?).map fun en => if ok then .tup [en.2.1, .v (.bool true)] else en.2.1
          | none => some (if ok then .tup [.v z, .v (.bool false)] else .v z)
      else none
    | _, _ => none
  | _, _, _ => none

def amapUpdate (m : AM) (t : TypeId) (x k y : AV) : Option AM :=
  match E.P.underlying t, k.flat, x with
  | some (.map kt _), some k, .mp i =>
    match m[i]? with
    | some (.map es clock) =>
      if keyOk E false kt k then
        (keyAt E kt k es 0).bind fun
          | some j => (es[j]?).bind fun en => if Instr.sameBits 10000 en.1 k then some (m.set i (.map (es.set j (k, y, en.2.2)) clock)) else none
          | none => some (m.set i (.map (es ++ [(k, y, clock)]) (clock + 1)))
      else none
    | _ => none
  | _, _, _ => none

/-- Surely a slice, a pointer, a map, a function other than nil. -/
def nonNil : AV → Bool
  | .sl cells _ _ _ own => own.isSome || !cells.isEmpty
  | .ref .. | .ptr .. | .ep _ | .mp _ | .fn .. | .u _ => true
  | _ => false
def isNilOf (d : TypeDesc) : AV → Bool
  | .v (.slice none _ _) => (match d with | .slice _ => true | _ => false)
  | .v (.pointer none) => (match d with | .pointer _ => true | _ => false)
  | .v (.map none) => (match d with | .map _ _ => true | _ => false)
  | .v .nilFunc => (match d with | .func _ _ _ => true | _ => false)
  | .v .nilIface => (match d with | .interface _ => true | _ => false)
  | _ => false
def isOf (d : TypeDesc) : AV → Bool
  | .sl .. | .ref .. => (match d with | .slice _ => true | _ => false)
  | .ptr .. | .ep _ => (match d with | .pointer _ => true | _ => false)
  | .mp _ => (match d with | .map _ _ => true | _ => false)
  | .fn .. => (match d with | .func _ _ _ => true | _ => false)
  | .u _ => (match d with | .interface _ => true | _ => false)
  | _ => false
/-- '==' and '!=' with nil, of what is surely not nil. -/
def anilCmp (op : BinOp) (t : TypeId) (x y : AV) : Option AV :=
  match E.P.underlying t with
  | some d =>
    if isNilOf d x && isOf d y && nonNil y || isOf d x && nonNil x && isNilOf d y then
      match op with
      | .eql => some (.v (.bool false))
      | .neq => some (.v (.bool true))
      | _ => none
    else none
  | none => none

/-- An operation whose operands are all exact, and that asks nothing of the world. -/
def flatOp (ρ : Operand → AV) (m : AM) (o : Oper) : Option ARes :=
  if o.op.operands.all fun x => (ρ x).flat.isSome then
    match pureRun E.P (execOp (fun x => ((ρ x).flat).getD undef) o) with
    | some (.inl (.value v)) => some (.ret (.v v) m)
    | some (.inr x) => some (.pan x m)
    | _ => none
  else none

/-- 'append(nil, make([]T, n)...)'. -/
def aappendZeros (m : AM) (sT : TypeId) (d x : AV) : Option ARes :=
  match E.P.underlying sT, d, x with
  | some (.slice e), .v (.slice none 0 0), .v (.int .i64 n) =>
    match tsize E e, tbytes E e, tzero E e with
    | some es, some bytes, some z =>
      if es = 0 ∨ z.cells.size ≠ es ∨ n ≤ 0 ∨ n.toNat * bytes > maxBytes ∨ n.toNat > maxLen then none else
      some (.ret (.ref m.length 0 es n.toNat none) (m ++ [.wr (zeros z n.toNat) e true]))
    | _, _, _ => none
  | _, _, _ => none

/-- A call of a function value. -/
def acallVal (call : ACall) (f : AV) (args : List AV) (m : AM) : Option ARes :=
  match f with
  | .v (.func (.func k) first captured) => call k (first.toList.map .v ++ args ++ captured.toList.map .v) m
  | .fn (.func k) first captured => call k (first ++ args ++ captured) m
  | _ => none

def abuiltin (lin : Bool) (b : Builtin) (ats : Array TypeId) (args : List AV) (m : AM) : Option ARes :=
  match b, args with
  | .append, [d, x] => (ats[0]?).bind fun t => match (ats[1]?).bind E.P.underlying with
    | some (.int _) => aappendZeros E m t d x
    | some _ => aappend E lin m t d x
    | none => none
  | .copy, [d, x] => (ats[0]?).bind fun t => acopy E m t d x
  | .len, [x] => match (ats[0]?).bind E.P.underlying, x with
    | some (.slice _), .sl _ _ n _ _ => some (.ret (.v (.int .i64 n)) m)
    | some (.slice _), .ref _ _ _ n _ => some (.ret (.v (.int .i64 n)) m)
    | _, _ => none
  | .cap, [x] => match (ats[0]?).bind E.P.underlying, x with
    | some (.slice _), .sl _ _ _ (some c) _ => some (.ret (.v (.int .i64 c)) m)
    | some (.slice _), .ref _ _ _ _ (some c) => some (.ret (.v (.int .i64 c)) m)
    | _, _ => none
  | _, _ => none

def afact (op : BinOp) (t : TypeId) (x y : AV) : Option AV :=
  (E.facts.find? fun f => f.op == op && f.t == t && f.a.beq x && f.b.beq y).map (·.r)

def aop (call : ACall) (fn : FuncId) (ρ : Operand → AV) (m : AM) (o : Oper) : Option ARes :=
  match o.op with
  | .move x | .assign x => some (.ret (ρ x) m)
  | .pick c a b => match ρ c with | .v (.bool t) => some (.ret (if t then ρ a else ρ b) m) | _ => none
  | .alloc e => (tzero E e).map fun z => .ret (.ptr m.length 0) (m ++ [.wr (z.cells.toList.map .v) e false])
  | .box e x => some (.ret (.ptr m.length 0) (m ++ [.wr (ρ x).cells e false]))
  | .build t ps => (abuild E t (ps.toList.map fun (i, x) => (i, ρ x))).map fun a => .ret a m
  | .buildSlice t n ps => abuildSlice E (E.lit fn) m t n (ps.toList.map fun (i, x) => (i, ρ x))
  | .load t a => (aload E m t (ρ a)).map fun x => .ret x m
  | .store t a x => (astore E m t (ρ a) (ρ x)).map fun m' => .ret (.v undef) m'
  | .makeFunc f a b => some (.ret (.fn f (a.toList.map ρ) (b.toList.map ρ)) m)
  | .makeSlice t l c => amakeSlice E m t (ρ l) (ρ c)
  | .slice t x lo hi mx => match flatOp E ρ m o with
    | some r => some r
    | none => aslice E (E.lit fn) m t (ρ x) (lo.map ρ) (hi.map ρ) (mx.map ρ)
  | .fieldAddr t x f => (afieldAddr E t (ρ x) f).map fun a => .ret a m
  | .indexAddr t x ix => (aindexAddr E t (ρ x) (ρ ix)).map fun a => .ret a m
  | .field t x f => match ρ x with
    | .agg cs => (afield E t (.agg cs) f).map fun a => .ret a m
    | _ => flatOp E ρ m o
  | .index t x ix => match ρ x with
    | .agg cs => (aindex E t (.agg cs) (ρ ix)).map fun a => .ret a m
    | _ => flatOp E ρ m o
  | .extract t i => match ρ t with
    | .tup vs => (vs[i]?).map fun a => .ret a m
    | _ => flatOp E ρ m o
  | .sliceToArrayPointer t x => match E.P.underlying t, ρ x with
    | some (.array n e), .sl cells es k _ _ => if n ≤ k ∧ 0 < n * es ∧ n * es ≤ cells.length ∧ tsize E e = some es then some (.ret (.ep (cells.take (n * es))) m) else none
    | some (.array n e), .ref i off es k _ => if n ≤ k ∧ tsize E e = some es then some (.ret (.ptr i off) m) else none
    | _, _ => none
  | .nilCheck x => match ρ x with
    | .ptr i off => some (.ret (.ptr i off) m)
    | .ep cs => some (.ret (.ep cs) m)
    | .fn (.func k) a b => some (.ret (.fn (.func k) a b) m)
    | _ => flatOp E ρ m o
  | .binOp op t x y _ => match flatOp E ρ m o with
    | some r => some r
    | none => match afact E op t (ρ x) (ρ y) with
      | some a => some (.ret a m)
      | none => (anilCmp E op t (ρ x) (ρ y)).map fun a => .ret a m
  | .convert s d x => match flatOp E ρ m o with
    | some r => some r
    | none => aconvert E m s d (ρ x)
  | .call c => match c.callee with
    | .value f => acallVal call (ρ f) (c.args.toList.map ρ) m
    | .builtin b => match flatOp E ρ m o with
      | some r => some r
      | none => abuiltin E (E.linear fn) b c.argTypes (c.args.toList.map ρ) m
    | .invoke .. => none
  | .unOp .. | .makeInterface .. | .typeAssert .. | .panic _ => flatOp E ρ m o
  | _ => none

abbrev AF := List AV

def aeval (a : AF) : Operand → AV
  | .tmp t => a.getD t (.v undef)
  | .const v => .v v
  | .global g => .v (.pointer (some ⟨g, 0, none⟩))
  | .func f => .v (.func (.func f) #[] #[])

def aput (a : AF) (dst : Option Tmp) (x : AV) : AF :=
  match dst with
  | some d => a.set d x
  | none => a

def ayielded (ops : Array Oper) (a : AF) (j : Nat) : Option Bool :=
  match ((ops[j]?).bind (·.dst)).bind (a[·]?) with
  | some (.v (.bool b)) => some b
  | _ => none

inductive AX where
  | normal | ret
  | exit (id : Nat)
  | pan (x : Value)
  deriving Inhabited

def aops (call : ACall) (fn : FuncId) (ops : Array Oper) : List Oper → AF → AM → Option (AX × AF × AM)
  | [], a, m => some (.normal, a, m)
  | o :: rest, a, m =>
    if Region.wanted o (ayielded ops a) then
      match aop E call fn (aeval a) m o with
      | some (.ret x m') => aops call fn ops rest (aput a o.dst x) m'
      | some (.pan x m') => some (.pan x, a, m')
      | none => none
    else aops call fn ops rest (aput a o.dst (.v undef)) m

/-- May an operation turn the memory? -/
def loud (fn : FuncId) (o : Oper) : Bool :=
  match o.op with
  | .call c => match c.callee with
    | .builtin .append | .builtin .copy | .builtin .delete | .builtin .clear => true
    | .builtin _ => false
    | _ => true
  | .alloc _ | .box .. | .store .. | .makeMap .. | .makeSlice .. | .mapUpdate .. | .insert .. => true
  | .buildSlice t .. => E.lit fn || (match E.P.underlying t with | some (.slice e) => isByte E e | _ => false)
  | .convert _ d _ => (E.P.underlying d matches some (.slice _))
  | .slice t .. => !E.lit fn && (E.P.underlying t matches some (.array ..))
  | _ => false

/-- One operation of a region that draws its order: what it comes to, where it is wanted. -/
def aone (call : ACall) (fn : FuncId) (ops : Array Oper) (o : Oper) (a : AF) (m : AM) : Option ARes :=
  if Region.wanted o (ayielded ops a) then aop E call fn (aeval a) m o else some (.ret (.v undef) m)

def isRet (r : Option ARes) (x : AV) : Bool :=
  match r with
  | some (.ret y _) => y.beq x
  | _ => false

/-- One step of a region that draws its order, carried out in the order of the text: the frame and the memory ahead of it, what it comes to, the memory behind it. -/
structure DRec where
  i : Nat
  o : Oper
  a : AF
  m : AM
  x : AV
  m' : AM
  deriving Inhabited

/-- A new variable: it may be made long before its turn. -/
def floats (o : Oper) : Bool :=
  match o.op, o.guard with
  | .alloc _, none => true
  | _, _ => false

def skipped (bs : Array Nat) (pn : Option (DRec × Nat)) (i : Nat) : Bool :=
  match pn with
  | some q => (bs.getD i 0).testBit q.1.i
  | none => false

/-- The operations in the order of the text; what hangs on one that panicked is left out. -/
def atrace (call : ACall) (fn : FuncId) (ops : Array Oper) (bs : Array Nat) : List (Nat × Oper) → AF → AM → Option (DRec × Nat) → List DRec → Option (List DRec × Option (DRec × Nat) × AF × AM)
  | [], a, m, pn, acc => some (acc.reverse, pn, a, m)
  | (i, o) :: rest, a, m, pn, acc =>
    if skipped bs pn i then atrace call fn ops bs rest a m pn acc else
    match aone E call fn ops o a m with
    | some (.ret x m') => atrace call fn ops bs rest (aput a o.dst x) (if loud E fn o then m' else m) pn (⟨i, o, a, m, x, m'⟩ :: acc)
    | some (.pan x m') => if pn.isNone then atrace call fn ops bs rest a m (some (⟨i, o, a, m, .v x, m'⟩, acc.length)) acc else none
    | none => none

def allPairs {α : Type} (f : α → α → Bool) : List α → Bool
  | [] => true
  | r :: rest => rest.all (f r) && allPairs f rest

/-- r stands ahead of q in the order of the text: in every order that the edges allow they come to the same. -/
def pairOk (call : ACall) (fn : FuncId) (ops : Array Oper) (bs : Array Nat) (recs : List DRec) (r q : DRec) : Bool :=
  r.i != q.i && !(bs.getD r.i 0).testBit q.i &&
  (if loud E fn r.o then
    if loud E fn q.o then
      if floats q.o then recs.all fun s => (match q.o.dst with | some d => !(s.o.looksAt ops).contains d | none => true) || (bs.getD s.i 0).testBit r.i
      else (bs.getD q.i 0).testBit r.i
    else (bs.getD q.i 0).testBit r.i || isRet (aone E call fn ops q.o q.a r.m) q.x
  else if loud E fn q.o then (bs.getD q.i 0).testBit r.i || isRet (aone E call fn ops r.o r.a q.m') r.x else true)

/-- All that must hold for the text's order to stand for every order. -/
def drawOk (call : ACall) (fn : FuncId) (ops : Array Oper) (bs : Array Nat) (recs : List DRec) (pn : Option (DRec × Nat)) : Bool :=
  allPairs (pairOk E call fn ops bs recs) recs &&
  (match pn with
   | none => true
   | some (p, k) => loud E fn p.o && (recs.take k).all (fun r => !(loud E fn r.o) || (bs.getD p.i 0).testBit r.i) && (recs.drop k).all (fun q => !(loud E fn q.o) && !(bs.getD p.i 0).testBit q.i) &&
     recs.all (fun r => r.i != p.i && !(bs.getD r.i 0).testBit p.i)) &&
  (List.range ops.size).all fun i => recs.any (·.i == i) || skipped bs pn i || (match pn with | some (p, _) => i == p.i | none => false)

/-- What stands ahead of each operation, by the edges that bind in every order. -/
def ahead (ops : List Oper) : List Nat :=
  ops.foldl (fun acc o => acc ++ [o.after.toList.foldl (fun s e => if Region.binds .any e then s ||| 2 ^ e.on ||| acc.getD e.on 0 else s) 0]) []

/-- The edges lead back; no two operations write one slot; who looks at a slot that another one writes stands ahead of it or behind it. -/
def drawStatic (ops : Array Oper) (bs : Array Nat) : Bool :=
  (List.range ops.size).all fun i =>
    match ops[i]? with
    | none => false
    | some o =>
      o.after.toList.all (fun e => !Region.binds .any e || e.on < i) &&
      bs.getD i 0 == o.after.toList.foldl (fun s e => if Region.binds .any e then s ||| 2 ^ e.on ||| bs.getD e.on 0 else s) 0 &&
      (List.range ops.size).all fun j => j == i ||
        match (ops[j]?).bind (·.dst) with
        | none => true
        | some d => o.dst != some d && (!(o.looksAt ops).contains d || (bs.getD i 0).testBit j || (bs.getD j 0).testBit i)

def aregion (call : ACall) (fn : FuncId) (ops : Array Oper) (draw : Bool) (a : AF) (m : AM) : Option (AX × AF × AM) :=
  if draw then
    let bs := (ahead ops.toList).toArray
    let l := (List.range ops.size).zip ops.toList
    if drawStatic ops bs then
      match atrace E call fn ops bs l a m none [] with
      | some (recs, pn, a', m') =>
        if drawOk E call fn ops bs recs pn then
          match pn with
          | none => some (.normal, a', m')
          | some (⟨_, _, _, _, .v x, mp⟩, _) => some (.pan x, a, mp)
          | _ => none
        else none
      | none => none
    else none
  else aops E call fn ops ops.toList a m

/-- The code, 'n' deep at most. -/
def aexec (call : ACall) (fn : FuncId) : Nat → Code → AF → AM → Option (AX × AF × AM)
  | 0, _, _, _ => none
  | n + 1, c, a, m =>
    match c with
    | .skip | .label _ => some (.normal, a, m)
    | .region _ ops draw => aregion E call fn ops draw a m
    | .seq x y => match aexec call fn n x a m with
      | some (.normal, a', m') => aexec call fn n y a' m'
      | r => r
    | .cond c x y => match aeval a c with
      | .v (.bool t) => if t then aexec call fn n x a m else aexec call fn n y a m
      | _ => none
    | .block id b => match aexec call fn n b a m with
      | some (.exit id', a', m') => if id' = id then some (.normal, a', m') else some (.exit id', a', m')
      | r => r
    | .loop b => match aexec call fn n b a m with
      | some (.normal, a', m') => aexec call fn n (.loop b) a' m'
      | r => r
    | .exit id => some (.exit id, a, m)
    | .ret => some (.ret, a, m)
    | _ => none

def aresult (a : AF) (m : AM) : ResultVar → Option AV
  | .tmp t => some (a.getD t (.v undef))
  | .cell t ty => aload E m ty (a.getD t (.v undef))

def aresults (rs : List ResultVar) (a : AF) (m : AM) : Option AV :=
  (rs.mapM (aresult E a m)).map fun
    | [x] => x
    | l => .tup l

/-- A call, 'n' deep at most. -/
def acall : Nat → ACall
  | 0, _, _, _ => none
  | n + 1, f, args, m =>
    match E.prim f with
    | some p => p (acall n) args m
    | none =>
      match E.P.funcs[f]? with
      | some fn =>
        match fn.body with
        | some c =>
          match aexec E (acall n) f n c (args ++ List.replicate (fn.ntmps - args.length) (.v undef)) m with
          | some (.normal, a, m') | some (.ret, a, m') => (aresults E fn.results.toList a m').map fun x => .ret x m'
          | some (.pan x, _, m') => some (.pan x m')
          | _ => none
        | none => none
      | none => none

end Go.Vm
