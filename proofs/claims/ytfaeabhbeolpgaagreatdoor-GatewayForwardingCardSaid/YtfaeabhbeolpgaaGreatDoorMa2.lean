/- The abstract machine, part 3: its instructions and its evaluator. Conditions: none. -/
import Derived.Test.YtfaeabhbeolpgaaGreatDoorMa1
set_option linter.all false
noncomputable section
namespace Go.Am

/-! ### Instructions -/
inductive AOpd where
  | t (n : Nat)
  | c (v : AVal)

/-- The kinds of plain values. -/
inductive KeyK where
  | bool | int | str
  deriving DecidableEq

inductive EqK where
  | bool | ptr | slice | map | func | iface
  | agg (sh : List KeyK)

inductive LenK where
  | str | sl | map

inductive AOp where
  | bad
  | mov (x : AOpd)
  | pick (c a b : AOpd)
  | alloc (z : List AVal)
  | box (x : AOpd)
  | build (z : List AVal) (ps : List (Nat × Nat × AOpd))
  | bslice (z : List AVal) (k len : Nat) (ps : List (Nat × AOpd))
  | load1 (a : AOpd)
  | loadN (m : Nat) (a : AOpd)
  | store (m : Nat) (a x : AOpd)
  | nilchk (x : AOpd)
  | bin (op : BinOp) (x y : AOpd)
  | eq (k : EqK) (neg : Bool) (x y : AOpd)
  | un (op : UnOp) (x : AOpd)
  | convI (k : IntKind) (x : AOpd)
  | convSB (x : AOpd)
  | convBS (x : AOpd)
  | convSS (x : AOpd)
  | mki (t : Nat) (x : AOpd)
  | mkf (f : Fn) (first cap : List AOpd)
  | mkmap
  | mksl (z : List AVal) (by_ : Nat) (l c : AOpd)
  | strv (x : AOpd)
  | slcS (x : AOpd) (lo hi : Option AOpd)
  | slc (k : Nat) (x : AOpd) (lo hi mx : Option AOpd)
  | slcA (k n : Nat) (x : AOpd) (lo hi : Option AOpd)
  | faddr (off : Nat) (x : AOpd)
  | fld (off : Nat) (m : Option Nat) (x : AOpd)
  | iaddrS (k : Nat) (x i : AOpd)
  | iaddrA (k n : Nat) (x i : AOpd)
  | idxA (k n : Nat) (ag : Bool) (x i : AOpd)
  | idxS (x i : AOpd)
  | lookup (kk : KeyK) (z : AVal) (ok : Bool) (m i : AOpd)
  | mupd (kk : KeyK) (m k v : AOpd)
  | tassert (t : Nat) (z : AVal) (ok : Bool) (x : AOpd)
  | ext (i : Nat) (x : AOpd)
  | len (k : LenK) (x : AOpd)
  | app (k by_ : Nat) (s x : AOpd)
  | cpy (k : Nat) (d s : AOpd)
  | clr (z : List AVal) (x : AOpd)
  | min (xs : List AOpd)
  | max (xs : List AOpd)
  | call (f : Nat) (args : List AOpd)
  | dyn (f : AOpd) (args : List AOpd)
  | defer (f : AOpd) (args : List AOpd)
  | panic (x : AOpd)
  | recover

structure AIns where
  dst : Option Nat
  op : AOp
  guard : Option (Nat × Bool)

/-- A region that may run in any of several orders: the steps of the one order that is looked at. 'one': an operation that only reads; 'again': it would give the same here; 'res': a new block, its key given beforehand. -/
inductive IW where
  | one (i : Nat)
  | again (i : Nat)
  | res (i k : Nat)
structure IPh where
  win : List IW
  adopt : List (Nat × Nat)
  loud : Option Nat

inductive ACode where
  | bad
  | skip
  | dreg (k : Nat) (ops : List AIns) (plan : List IPh)
  | reg (ops : List AIns)
  | seq (a b : ACode)
  | cond (c : AOpd) (a b : ACode)
  | block (id : Nat) (b : ACode)
  | loop (b : ACode)
  | scope (b : ACode)
  | exit (id : Nat)
  | ret

/-! ### Plain operations on values -/
def wrapF (k : IntKind) (n : Int) : Int :=
  match k, n with
  | .i64, .ofNat m => if Nat.blt m 9223372036854775808 then n else k.wrap n
  | _, _ => k.wrap n

def intBin (op : BinOp) (k : IntKind) (x y : Int) : Option AVal :=
  match op with
  | .add => some (.int k (wrapF k (x + y)))
  | .sub => some (.int k (wrapF k (x - y)))
  | .mul => some (.int k (wrapF k (x * y)))
  | .quo => if y = 0 then none else some (.int k (k.wrap (x.tdiv y)))
  | .rem => if y = 0 then none else some (.int k (x.tmod y))
  | .and => some (.int k (k.wrap ((BitVec.ofInt k.bits x &&& BitVec.ofInt k.bits y).toNat)))
  | .or => some (.int k (k.wrap ((BitVec.ofInt k.bits x ||| BitVec.ofInt k.bits y).toNat)))
  | .xor => some (.int k (k.wrap ((BitVec.ofInt k.bits x ^^^ BitVec.ofInt k.bits y).toNat)))
  | .andNot => some (.int k (k.wrap ((BitVec.ofInt k.bits x &&& ~~~ BitVec.ofInt k.bits y).toNat)))
  | .eql => some (.bool (x == y))
  | .neq => some (.bool (x != y))
  | .lss => some (.bool (x < y))
  | .leq => some (.bool (x ≤ y))
  | .gtr => some (.bool (x > y))
  | .geq => some (.bool (x ≥ y))
  | _ => none

def shiftBin (op : BinOp) (k : IntKind) (x y : Int) : Option AVal :=
  if y < 0 then none
  else
    match op with
    | .shl => some (.int k (k.wrap (x * 2 ^ (Nat.min y.toNat k.bits))))
    | .shr => some (.int k (x.fdiv (2 ^ (Nat.min y.toNat k.bits))))
    | _ => none

def strEq : List UInt8 → List UInt8 → Bool
  | [], [] => true
  | a :: x, b :: y => Nat.beq a.toNat b.toNat && strEq x y
  | _, _ => false

def strBin (op : BinOp) (x y : List UInt8) : Option AVal :=
  match op with
  | .add => if Nat.ble (ln x + ln y) 1000000000 then some (.str (cat x y)) else none
  | .eql => some (.bool (strEq x y))
  | .neq => some (.bool (!strEq x y))
  | .lss => some (.bool (Op.bytesLess x y))
  | .leq => some (.bool (Op.bytesLess x y || strEq x y))
  | .gtr => some (.bool (!(Op.bytesLess x y || strEq x y)))
  | .geq => some (.bool (!Op.bytesLess x y))
  | _ => none

def binV (op : BinOp) (x y : AVal) : Option AVal :=
  match x, y with
  | .int k a, .int k' b =>
    match op with
    | .shl | .shr => shiftBin op k a b
    | _ => if k = k' then intBin op k a b else none
  | .str a, .str b => strBin op a b
  | _, _ => none

/-- Equality of two keys of a kind. -/
def keyV : KeyK → AVal → AVal → Option Bool
  | .bool, .bool a, .bool b => some (a == b)
  | .int, .int k a, .int k' b => if k = k' then some (a == b) else none
  | .str, .str a, .str b => some (strEq a b)
  | _, _, _ => none
/-- Equality of rows of plain values of given kinds. -/
def eqS : List KeyK → List AVal → List AVal → Option Bool
  | [], _, _ => some true
  | k :: sh, a :: x, b :: y => match keyV k a b with
    | some true => eqS sh x y
    | some false => some false
    | none => none
  | _, _, _ => none

/-- Equality by the kind of the type: bools, and comparisons with nil. -/
def eqV : EqK → AVal → AVal → Option Bool
  | .bool, .bool a, .bool b => some (a == b)
  | .ptr, .nilp, .nilp => some true
  | .ptr, .nilp, .ptr _ _ => some false
  | .ptr, .ptr _ _, .nilp => some false
  | .slice, .nils, .nils => some true
  | .slice, .nils, .sl _ _ _ _ => some false
  | .slice, .sl _ _ _ _, .nils => some false
  | .map, .nilm, .nilm => some true
  | .map, .nilm, .map _ => some false
  | .map, .map _, .nilm => some false
  | .func, .nilf, .nilf => some true
  | .func, .nilf, .fn _ _ _ => some false
  | .func, .fn _ _ _, .nilf => some false
  | .iface, .nili, .nili => some true
  | .iface, .nili, .ifc _ _ => some false
  | .iface, .ifc _ _, .nili => some false
  | .agg sh, .agg x, .agg y => eqS sh x y
  | _, _, _ => none

def isKey : KeyK → AVal → Bool
  | .bool, .bool _ => true
  | .int, .int _ _ => true
  | .str, .str _ => true
  | _, _ => false

def cellsOf : AVal → List AVal
  | .agg l => l
  | v => [v]

def opd (tm : List AVal) : AOpd → AVal
  | .t n => match nth tm n with
    | some v => v
    | none => und
  | .c v => v
def opds (tm : List AVal) : List AOpd → List AVal
  | [] => []
  | x :: l => opd tm x :: opds tm l

structure ADef where
  f : Fn
  args : List AVal
  cap : List AVal

inductive ARes where
  | val (v : AVal) (h : Hp)
  | call (f : Nat) (args : List AVal)
  | dfr (d : ADef)
  | pan (v : AVal)
  | rcv

def blit (cs : List AVal) (off : Nat) (l : List AVal) : List AVal := cat (takeN off cs) (cat l (dropN (off + ln l) cs))

def fillA (tm : List AVal) : List (Nat × Nat × AOpd) → List AVal → Option (List AVal)
  | [], cs => some cs
  | (off, size, x) :: ps, cs =>
    let l := cellsOf (opd tm x)
    if Nat.beq (ln l) size && Nat.ble (off + size) (ln cs) then fillA tm ps (blit cs off l) else none

def fillS (tm : List AVal) (k len : Nat) : List (Nat × AOpd) → Tree (List AVal) → Option (Tree (List AVal))
  | [], t => some t
  | (e, x) :: ps, t =>
    let l := cellsOf (opd tm x)
    if Nat.beq (ln l) k && Nat.blt e len then fillS tm k len ps (t.put e (some l)) else none

def byteCells : List UInt8 → List AVal
  | [] => []
  | b :: l => .int .u8 b.toNat :: byteCells l
def cellBytes : List AVal → Option (List UInt8)
  | [] => some []
  | .int .u8 n :: l => match cellBytes l with
    | some r => some (UInt8.ofNat n.toNat :: r)
    | none => none
  | _ => none

/-- The length and the cells of a slice or a string. -/
def rdS (h : Hp) (k : Nat) : AVal → Option (Nat × List AVal)
  | .str l => if Nat.beq k 1 then some (ln l, byteCells l) else none
  | .nils => some (0, [])
  | .sl g o n _ => match h.m.get g with
    | some ob => match rd ob o (n * k) with
      | some l => some (n, l)
      | none => none
    | none => none
  | _ => none

def natOf : AVal → Option Nat
  | .int _ (.ofNat n) => some n
  | _ => none

def bound (tm : List AVal) (x : Option AOpd) (d : Nat) : Option Nat :=
  match x with
  | none => some d
  | some x => natOf (opd tm x)

/-- x[lo:hi:mx], x of n elements with the capacity c (none: not known, at least n). -/
def cutB (tm : List AVal) (n : Nat) (c : Option Nat) (lo hi mx : Option AOpd) : Option (Nat × Nat × Option Nat) :=
  match bound tm lo 0, bound tm hi n with
  | some l, some h =>
    match mx with
    | none => if Nat.ble l h && Nat.ble h (c.getD n) then some (l, h, match c with | some c => some (c - l) | none => none) else none
    | some m => match natOf (opd tm m) with
      | some m => if Nat.ble l h && Nat.ble h m && Nat.ble m (c.getD n) then some (l, h, some (m - l)) else none
      | none => none
  | _, _ => none

def slcV (tm : List AVal) (h : Hp) (k : Nat) (x : AVal) (lo hi mx : Option AOpd) : Option AVal :=
  match x with
  | .sl g o n c => match cutB tm n c lo hi mx with
    | some (l, u, c') => match c with
      | some _ => some (.sl g (o + l * k) (u - l) c')
      | none => match h.m.get g with
        | some (.cells _ _ k' _ _) => if Nat.beq k' k then some (.sl g (o + l * k) (u - l) c') else none
        | _ => none
    | none => none
  | .nils => match cutB tm 0 (some 0) lo hi mx with
    | some _ => some .nils
    | none => none
  | _ => none

def findE (kk : KeyK) (k : AVal) : List (AVal × AVal) → Option (Option AVal)
  | [] => some none
  | (a, v) :: l => match keyV kk k a with
    | some true => some (some v)
    | some false => findE kk k l
    | none => none

/-- The list of entries with the value at a key turned, or with a new entry at the end. -/
def updE (kk : KeyK) (k v : AVal) : List (AVal × AVal) → Option (List (AVal × AVal))
  | [] => some [(k, v)]
  | (a, u) :: l => match keyV kk k a with
    | some true => some ((a, v) :: l)
    | some false => match updE kk k v l with
      | some r => some ((a, u) :: r)
      | none => none
    | none => none

/-- Elements appended: the new object and the slice. -/
def appV (h : Hp) (k by_ : Nat) (s x : AVal) : Option ARes :=
  match rdS h k x with
  | none => none
  | some (m, cx) =>
    if ones cx then
    match s with
    | .nils => if Nat.beq m 0 then some (.val .nils h) else
        if Nat.ble ((4 * m + 2000) * (by_ + 1)) 100000000000 then some (.val (.sl h.next 0 m none) (h.new (.cells (chunks k m cx 0 .leaf) (takeN k cx) k m true))) else none
    | .sl g o n c =>
      match h.m.get g with
      | none => none
      | some ob =>
        if Nat.beq m 0 then some (.val s h) else
        if Nat.ble ((4 * (n + m) + 2000) * (by_ + 1)) 100000000000 then
        match c with
        | some c =>
          if Nat.ble (n + m) c then
            match wr ob (o + n * k) cx with
            | some ob' => some (.val (.sl g o (n + m) (some c)) (h.set g ob'))
            | none => none
          else match rd ob o (n * k) with
            | some l => some (.val (.sl h.next 0 (n + m) none) (h.new (.cells (chunks k m cx n (chunks k n l 0 .leaf)) (takeN k cx) k (n + m) true)))
            | none => none
        | none =>
          match ob with
          | .cells t z k' n' true =>
            if Nat.beq k k' then
              if Nat.beq (o + n * k) (n' * k) then
                if Nat.beq o 0 then some (.val (.sl h.next 0 (n + m) none) ((h.del g).new (.cells (chunks k m cx n t) z k (n + m) true)))
                else match rd ob o (n * k) with
                  | some l => some (.val (.sl h.next 0 (n + m) none) ((h.del g).new (.cells (chunks k m cx n (chunks k n l 0 .leaf)) z k (n + m) true)))
                  | none => none
              else match wr ob (o + n * k) cx with
                | some ob' => some (.val (.sl g o (n + m) none) (h.set g ob'))
                | none => none
            else none
          | _ => none
        else none
    | _ => none
    else none

def minA : IntKind → Int → List AVal → Option AVal
  | k, x, [] => some (.int k x)
  | k, x, .int k' y :: l => if k = k' then minA k (if y < x then y else x) l else none
  | _, _, _ => none
def maxA : IntKind → Int → List AVal → Option AVal
  | k, x, [] => some (.int k x)
  | k, x, .int k' y :: l => if k = k' then maxA k (if y > x then y else x) l else none
  | _, _, _ => none
def minV : List AVal → Option AVal
  | .int k x :: l => minA k x l
  | _ => none
def maxV : List AVal → Option AVal
  | .int k x :: l => maxA k x l
  | _ => none

def reps (z : List AVal) : Nat → List AVal
  | 0 => []
  | n + 1 => cat z (reps z n)

def vl (h : Hp) : Option AVal → Option ARes
  | some v => some (.val v h)
  | none => none

def isC : AVal → Bool
  | .fn (.func _) _ _ | .ptr _ _ | .sl _ _ _ _ | .ifc _ _ => true
  | _ => false

def aop (tm : List AVal) (h : Hp) (op : AOp) : Option ARes :=
  match op with
  | .bad => none
  | .mov x => some (.val (opd tm x) h)
  | .pick c a b => match opd tm c with
    | .bool true => some (.val (opd tm a) h)
    | .bool false => some (.val (opd tm b) h)
    | _ => none
  | .alloc z => some (.val (.ptr h.next 0) (h.new (.cells .leaf z (ln z) 1 true)))
  | .box x => let l := cellsOf (opd tm x); some (.val (.ptr h.next 0) (h.new (.cells .leaf l (ln l) 1 true)))
  | .build z ps => match fillA tm ps z with
    | some l => some (.val (.agg l) h)
    | none => none
  | .bslice z k len ps => match fillS tm k len ps .leaf with
    | some t => some (.val (.sl h.next 0 len (some len)) (h.new (.cells t z k len true)))
    | none => none
  | .load1 a => match opd tm a with
    | .ptr g o => match h.m.get g with
      | some ob => vl h (rd1 ob o)
      | none => none
    | _ => none
  | .loadN m a => match opd tm a with
    | .ptr g o => match h.m.get g with
      | some ob => match rd ob o m with
        | some l => some (.val (.agg l) h)
        | none => none
      | none => none
    | _ => none
  | .store m a x => match opd tm a with
    | .ptr g o => match h.m.get g with
      | some ob => let l := cellsOf (opd tm x)
        if Nat.beq (ln l) m then match wr ob o l with
          | some ob' => some (.val und (h.set g ob'))
          | none => none
        else none
      | none => none
    | _ => none
  | .nilchk x => let v := opd tm x; if isC v then some (.val v h) else none
  | .bin op x y => vl h (binV op (opd tm x) (opd tm y))
  | .eq k neg x y => match eqV k (opd tm x) (opd tm y) with
    | some b => some (.val (.bool (if neg then !b else b)) h)
    | none => none
  | .un op x => match op, opd tm x with
    | .neg, .int k n => vl h (intBin .sub k 0 n)
    | .xor, .int k n => vl h (intBin .xor k (if k.signed then -1 else k.max) n)
    | .not, .bool b => some (.val (.bool (!b)) h)
    | _, _ => none
  | .convI k x => match opd tm x with
    | .int _ n => some (.val (.int k (wrapF k n)) h)
    | _ => none
  | .convSB x => match opd tm x with
    | .str l => some (.val (.sl h.next 0 (ln l) none) (h.new (.cells (chunks 1 (ln l) (byteCells l) 0 .leaf) [.int .u8 0] 1 (ln l) true)))
    | _ => none
  | .convBS x => match rdS h 1 (opd tm x) with
    | some (_, l) => match opd tm x, cellBytes l with
      | .str _, _ => none
      | _, some r => some (.val (.str r) h)
      | _, none => none
    | none => none
  | .convSS x => match opd tm x with
    | .sl g o (n + 1) c => match h.m.get g with
      | some (.cells _ _ _ _ true) => some (.val (.sl g o (n + 1) c) h)
      | _ => none
    | _ => none
  | .mki t x => some (.val (.ifc t (opd tm x)) h)
  | .mkf f a c => some (.val (.fn f (opds tm a) (opds tm c)) h)
  | .mkmap => some (.val (.map h.next) (h.new (.map [])))
  | .mksl z by_ l c => match natOf (opd tm l), natOf (opd tm c) with
    | some l, some c => if Nat.ble l c && Nat.ble (c * (by_ + 1)) 100000000000 then some (.val (.sl h.next 0 l (some c)) (h.new (.cells .leaf z (ln z) c true))) else none
    | _, _ => none
  | .strv x => match opd tm x with
    | .str s => some (.val (.str s) h)
    | _ => none
  | .slcS x lo hi => match opd tm x with
    | .str s => match cutB tm (ln s) (some (ln s)) lo hi none with
      | some (l, u, _) => some (.val (.str (takeN (u - l) (dropN l s))) h)
      | none => none
    | _ => none
  | .slc k x lo hi mx => vl h (slcV tm h k (opd tm x) lo hi mx)
  | .slcA k n x lo hi => match opd tm x with
    | .ptr g o => match cutB tm n (some n) lo hi none with
      | some (l, h', c) => some (.val (.sl g (o + l * k) (h' - l) c) h)
      | none => none
    | _ => none
  | .faddr off x => match opd tm x with
    | .ptr g o => some (.val (.ptr g (o + off)) h)
    | _ => none
  | .fld off m x => match opd tm x with
    | .agg l => match m with
      | none => vl h (nth l off)
      | some m => some (.val (.agg (takeN m (dropN off l))) h)
    | _ => none
  | .iaddrS k x i => match opd tm x, natOf (opd tm i) with
    | .sl g o n _, some i => if Nat.blt i n then some (.val (.ptr g (o + i * k)) h) else none
    | _, _ => none
  | .iaddrA k n x i => match opd tm x, natOf (opd tm i) with
    | .ptr g o, some i => if Nat.blt i n then some (.val (.ptr g (o + i * k)) h) else none
    | _, _ => none
  | .idxA k n ag x i => match opd tm x, natOf (opd tm i) with
    | .agg l, some i => if Nat.blt i n then (if ag then some (.val (.agg (takeN k (dropN (i * k) l))) h) else vl h (nth l (i * k))) else none
    | _, _ => none
  | .idxS x i => match opd tm x, natOf (opd tm i) with
    | .str s, some i => match nth s i with
      | some b => some (.val (.int .u8 b.toNat) h)
      | none => none
    | _, _ => none
  | .lookup kk z ok m i =>
    if isKey kk (opd tm i) then
      match (match opd tm m with
        | .nilm => some []
        | .map g => match h.m.get g with
          | some (.map es) => some es
          | _ => none
        | _ => none) with
      | none => none
      | some es => match findE kk (opd tm i) es with
        | none => none
        | some (some v) => some (.val (if ok then .tup [v, .bool true] else v) h)
        | some none => some (.val (if ok then .tup [z, .bool false] else z) h)
    else none
  | .mupd kk m k v => match opd tm m with
    | .map g => match h.m.get g with
      | some (.map es) => if isKey kk (opd tm k) then match updE kk (opd tm k) (opd tm v) es with
          | some es' => some (.val und (h.set g (.map es')))
          | none => none
        else none
      | _ => none
    | _ => none
  | .tassert t z ok x => match opd tm x with
    | .ifc t' v => if Nat.beq t' t then some (.val (if ok then .tup [v, .bool true] else v) h) else
        if ok then some (.val (.tup [z, .bool false]) h) else none
    | .nili => if ok then some (.val (.tup [z, .bool false]) h) else none
    | _ => none
  | .ext i x => match opd tm x with
    | .tup l => vl h (nth l i)
    | _ => none
  | .len k x => match k, opd tm x with
    | .str, .str l => some (.val (.int .i64 (ln l)) h)
    | .sl, .nils => some (.val (.int .i64 0) h)
    | .sl, .sl _ _ n _ => some (.val (.int .i64 n) h)
    | .map, .nilm => some (.val (.int .i64 0) h)
    | .map, .map g => match h.m.get g with
      | some (.map es) => some (.val (.int .i64 (ln es)) h)
      | _ => none
    | _, _ => none
  | .app k by_ s x => appV h k by_ (opd tm s) (opd tm x)
  | .cpy k d s => match opd tm d, rdS h k (opd tm s) with
    | .nils, some _ => some (.val (.int .i64 0) h)
    | .sl g o n _, some (m, cx) => match h.m.get g with
      | some ob => match wr ob o (takeN (Nat.min m n * k) cx) with
        | some ob' => some (.val (.int .i64 (Nat.min m n)) (h.set g ob'))
        | none => none
      | none => none
    | _, _ => none
  | .clr z x => match opd tm x with
    | .nils => some (.val und h)
    | .sl _ _ 0 _ => some (.val und h)
    | .sl g o (n + 1) _ => match h.m.get g with
      | some ob => match wr ob o (reps z (n + 1)) with
        | some ob' => some (.val und (h.set g ob'))
        | none => none
      | none => none
    | _ => none
  | .min xs => vl h (minV (opds tm xs))
  | .max xs => vl h (maxV (opds tm xs))
  | .call f args => some (.call f (opds tm args))
  | .dyn f args => match opd tm f with
    | .fn (.func f) a c => some (.call f (cat a (cat (opds tm args) c)))
    | _ => none
  | .defer f args => match opd tm f with
    | .fn f a c => some (.dfr ⟨f, cat a (opds tm args), c⟩)
    | _ => none
  | .panic x => match opd tm x with
    | .ifc t v => some (.pan (.ifc t v))
    | _ => none
  | .recover => some .rcv

/-! ### Regions of several orders -/
/-- The value and the object that an operation makes anew. -/
def Jp (tm : List AVal) (op : AOp) : Option ((Nat → AVal) × Obj) :=
  match op with
  | .alloc z => some ((.ptr · 0), .cells .leaf z (ln z) 1 true)
  | .box x => let l := cellsOf (opd tm x); some ((.ptr · 0), .cells .leaf l (ln l) 1 true)
  | .bslice z k len ps => match fillS tm k len ps .leaf with
    | some t => some ((.sl · 0 len (some len)), .cells t z k len true)
    | none => none
  | .convSB x => match opd tm x with
    | .str l => some ((.sl · 0 (ln l) none), .cells (chunks 1 (ln l) (byteCells l) 0 .leaf) [.int .u8 0] 1 (ln l) true)
    | _ => none
  | .mkmap => some (.map, .map [])
  | .mksl z by_ l c => match natOf (opd tm l), natOf (opd tm c) with
    | some l, some c => if Nat.ble l c && Nat.ble (c * (by_ + 1)) 100000000000 then some ((.sl · 0 l (some c)), .cells .leaf z (ln z) c true) else none
    | _, _ => none
  | _ => none
def isAl : AOp → Bool
  | .alloc _ | .box _ | .bslice .. | .convSB _ | .mkmap | .mksl .. => true
  | _ => false
def isPure : AOp → Bool
  | .mov _ | .pick .. | .build .. | .load1 _ | .loadN .. | .nilchk _ | .bin .. | .eq .. | .un .. | .convI .. | .convBS _ | .convSS _ | .mki .. | .mkf .. | .strv _ | .slcS .. | .slc .. | .slcA .. | .faddr .. | .fld .. | .iaddrS .. | .iaddrA .. | .idxA .. | .idxS ..
  | .lookup .. | .tassert .. | .ext .. | .len .. | .min _ | .max _ => true
  | _ => false

def oT : AOpd → List Nat
  | .t n => [n]
  | .c _ => []
def osT : List AOpd → List Nat
  | [] => []
  | x :: l => cat (oT x) (osT l)
def oOT : Option AOpd → List Nat
  | none => []
  | some x => oT x
def psT : List (Nat × Nat × AOpd) → List Nat
  | [] => []
  | (_, _, x) :: l => cat (oT x) (psT l)
def qsT : List (Nat × AOpd) → List Nat
  | [] => []
  | (_, x) :: l => cat (oT x) (qsT l)
/-- The places that an operation looks at. -/
def opT : AOp → List Nat
  | .bad | .alloc _ | .mkmap | .recover => []
  | .mov x | .box x | .load1 x | .loadN _ x | .nilchk x | .un _ x | .convI _ x | .convSB x | .convBS x | .convSS x | .mki _ x | .strv x | .faddr _ x | .fld _ _ x | .tassert _ _ _ x | .ext _ x | .len _ x | .clr _ x | .panic x => oT x
  | .pick a b c => cat (oT a) (cat (oT b) (oT c))
  | .build _ ps => psT ps
  | .bslice _ _ _ ps => qsT ps
  | .store _ a x | .bin _ a x | .eq _ _ a x | .iaddrS _ a x | .iaddrA _ _ a x | .idxA _ _ _ a x | .idxS a x | .lookup _ _ _ a x | .app _ _ a x | .cpy _ a x | .mksl _ _ a x => cat (oT a) (oT x)
  | .mkf _ a c => cat (osT a) (osT c)
  | .slcS x lo hi => cat (oT x) (cat (oOT lo) (oOT hi))
  | .slc _ x lo hi mx => cat (oT x) (cat (oOT lo) (cat (oOT hi) (oOT mx)))
  | .slcA _ _ x lo hi => cat (oT x) (cat (oOT lo) (oOT hi))
  | .mupd _ m k v => cat (oT m) (cat (oT k) (oT v))
  | .min xs | .max xs => osT xs
  | .call _ args => osT args
  | .dyn f args | .defer f args => cat (oT f) (osT args)

mutual
def veq : AVal → AVal → Bool
  | .bool a, .bool b => a == b
  | .int k a, .int k' b => k = k' && a == b
  | .str a, .str b => strEq a b
  | .nilp, .nilp => true
  | .ptr g o, .ptr g' o' => Nat.beq g g' && Nat.beq o o'
  | .nils, .nils => true
  | .sl g o n c, .sl g' o' n' c' => Nat.beq g g' && Nat.beq o o' && Nat.beq n n' && (match c, c' with | none, none => true | some a, some b => Nat.beq a b | _, _ => false)
  | .nilm, .nilm => true
  | .map g, .map g' => Nat.beq g g'
  | .nilf, .nilf => true
  | .nili, .nili => true
  | .fn (.func f) a c, .fn (.func f') a' c' => Nat.beq f f' && veqL a a' && veqL c c'
  | .ifc t v, .ifc t' v' => Nat.beq t t' && veq v v'
  | .agg l, .agg l' => veqL l l'
  | .tup l, .tup l' => veqL l l'
  | _, _ => false
def veqL : List AVal → List AVal → Bool
  | [], [] => true
  | a :: l, b :: l' => veq a b && veqL l l'
  | _, _ => false
end

/-! ### Code -/
structure AAct where
  tm : List AVal
  df : List ADef

inductive AMode where
  | ret
  | pan (ch : List (AVal × Bool))

inductive AExit where
  | normal
  | exit (id : Nat)
  | ret
  | pan (ch : List (AVal × Bool))

inductive AEnd where
  | ret (v : AVal)
  | pan (ch : List (AVal × Bool))

inductive ARV where
  | tmp (t : Nat)
  | cell (t : Nat) (m : Option Nat)

structure AFunc where
  np : Nat
  pad : List AVal
  res : List ARV
  body : ACode

abbrev CodeF := ACode → Bool → AAct → Hp → AMode → Option (AExit × AAct × Hp × AMode)
abbrev CallF := Bool → Nat → List AVal → Hp → AMode → Option (AEnd × Hp × AMode)

def putD (tm : List AVal) (dst : Option Nat) (v : AVal) : List AVal :=
  match dst with
  | some d => setN tm d v
  | none => tm

def wantedA (tm : List AVal) : Option (Nat × Bool) → Bool
  | none => true
  | some (s, b) => match nth tm s with
    | some (.bool c) => c == b
    | _ => false

def opsA (G : CallF) (dfr : Bool) : List AIns → AAct → Hp → AMode → Option (AExit × AAct × Hp × AMode)
  | [], a, h, cm => some (.normal, a, h, cm)
  | i :: l, a, h, cm =>
    if wantedA a.tm i.guard then
      match aop a.tm h i.op with
      | some (.val v h') => opsA G dfr l ⟨putD a.tm i.dst v, a.df⟩ h' cm
      | some (.call f args) => match G false f args h .ret with
        | some (.ret v, h', _) => opsA G dfr l ⟨putD a.tm i.dst v, a.df⟩ h' cm
        | some (.pan ch, h', _) => some (.pan ch, a, h', cm)
        | none => none
      | some (.dfr d) => opsA G dfr l ⟨putD a.tm i.dst und, d :: a.df⟩ h cm
      | some (.pan v) => some (.pan [(v, false)], a, h, cm)
      | some .rcv =>
        if dfr then match cm with
          | .pan ((v, false) :: older) => opsA G dfr l ⟨putD a.tm i.dst v, a.df⟩ h (.pan ((v, true) :: older))
          | _ => opsA G dfr l ⟨putD a.tm i.dst .nili, a.df⟩ h cm
        else opsA G dfr l ⟨putD a.tm i.dst .nili, a.df⟩ h cm
      | none => none
    else opsA G dfr l ⟨putD a.tm i.dst und, a.df⟩ h cm

/-- One operation that only reads. -/
def one1 (i : AIns) (tm : List AVal) (h : Hp) : Option AVal :=
  if wantedA tm i.guard then match aop tm h i.op with
    | some (.val v _) => some v
    | _ => none
  else some und
/-- One operation that makes a block. -/
def al1 (i : AIns) (tm : List AVal) (k : Nat) : Option (AVal × Option Obj) :=
  if wantedA tm i.guard then match Jp tm i.op with
    | some (f, ob) => some (f k, some ob)
    | none => none
  else some (und, none)
/-- One operation of any kind that ends well. -/
def ld1 (G : CallF) (dfr : Bool) (i : AIns) (tm : List AVal) (df : List ADef) (h : Hp) (cm : AMode) : Option (AVal × List ADef × Hp × AMode) :=
  if wantedA tm i.guard then
    match aop tm h i.op with
    | some (.val v h') => some (v, df, h', cm)
    | some (.call f args) => match G false f args h .ret with
      | some (.ret v, h', _) => some (v, df, h', cm)
      | _ => none
    | some (.dfr d) => some (und, d :: df, h, cm)
    | _ => none
  else some (und, df, h, cm)

def sameD (tm : List AVal) (dst : Option Nat) (v : AVal) : Bool :=
  match dst with
  | some d => match nth tm d with
    | some u => veq u v
    | none => true
  | none => true

def winA (ops : List AIns) (base : Nat) : List IW → List AVal → Hp → Option (List AVal)
  | [], tm, _ => some tm
  | .one ix :: l, tm, h => match nth ops ix with
    | some i => match one1 i tm h with
      | some v => winA ops base l (putD tm i.dst v) h
      | none => none
    | none => none
  | .again ix :: l, tm, h => match nth ops ix with
    | some i => match one1 i tm h with
      | some v => if sameD tm i.dst v then winA ops base l tm h else none
      | none => none
    | none => none
  | .res ix k :: l, tm, h => match nth ops ix with
    | some i => match al1 i tm (base + k) with
      | some (v, _) => winA ops base l (putD tm i.dst v) h
      | none => none
    | none => none
def Jw (ops : List AIns) (base : Nat) : List (Nat × Nat) → List AVal → Hp → Option Hp
  | [], _, h => some h
  | (ix, k) :: l, tm, h => match nth ops ix with
    | some i => match al1 i tm (base + k) with
      | some (_, some ob) => Jw ops base l tm ⟨h.m.put (base + k) (some ob), h.next⟩
      | some (_, none) => Jw ops base l tm h
      | none => none
    | none => none
def dregA (G : CallF) (dfr : Bool) (ops : List AIns) (base : Nat) : List IPh → AAct → Hp → AMode → Option (AAct × Hp × AMode)
  | [], _, _, _ => none
  | p :: ps, a, h, cm => match winA ops base p.win a.tm h with
    | none => none
    | some tm => match Jw ops base p.adopt tm h with
      | none => none
      | some h1 => match p.loud with
        | none => match ps with
          | [] => some (⟨tm, a.df⟩, h1, cm)
          | _ => none
        | some ix => match nth ops ix with
          | none => none
          | some i => match ld1 G dfr i tm a.df h1 cm with
            | some (v, df', h2, cm2) => dregA G dfr ops base ps ⟨putD tm i.dst v, df'⟩ h2 cm2
            | none => none

def codeA (r : CodeF × CallF) : CodeF := fun c dfr a h cm =>
  match c with
  | .bad => none
  | .dreg kk ops plan => match dregA r.2 dfr ops h.next plan a ⟨h.m, h.next + kk⟩ cm with
    | some (a', h', cm') => some (.normal, a', h', cm')
    | none => none
  | .skip => some (.normal, a, h, cm)
  | .reg ops => opsA r.2 dfr ops a h cm
  | .seq x y => match r.1 x dfr a h cm with
    | some (.normal, a', h', cm') => r.1 y dfr a' h' cm'
    | o => o
  | .cond c x y => match opd a.tm c with
    | .bool true => r.1 x dfr a h cm
    | .bool false => r.1 y dfr a h cm
    | _ => none
  | .block id b => match r.1 b dfr a h cm with
    | some (.exit id', a', h', cm') => if Nat.beq id' id then some (.normal, a', h', cm') else some (.exit id', a', h', cm')
    | o => o
  | .loop b => match r.1 b dfr a h cm with
    | some (.normal, a', h', cm') => r.1 (.loop b) dfr a' h' cm'
    | o => o
  | .scope b => r.1 b dfr a h cm
  | .exit id => some (.exit id, a, h, cm)
  | .ret => some (.ret, a, h, cm)

def resA (tm : List AVal) (h : Hp) : List ARV → Option (List AVal)
  | [] => some []
  | .tmp t :: l => match resA tm h l with
    | some r => some (opd tm (.t t) :: r)
    | none => none
  | .cell t m :: l =>
    match opd tm (.t t) with
    | .ptr g o => match h.m.get g with
      | some ob =>
        match (match m with | none => rd1 ob o | some m => match rd ob o m with | some l => some (.agg l) | none => none), resA tm h l with
        | some v, some r => some (v :: r)
        | _, _ => none
      | none => none
    | _ => none

def settleA : AMode → AMode
  | .pan ((_, true) :: _) => .ret
  | m => m
def raisedA (u : AMode) (ch : List (AVal × Bool)) : AMode :=
  match u with
  | .pan old => .pan (cat ch old)
  | .ret => .pan ch

def leaveA (G : CallF) (tm : List AVal) (rs : List ARV) : List ADef → AMode → Hp → Option (AEnd × Hp)
  | [], .ret, h => match resA tm h rs with
    | some [v] => some (.ret v, h)
    | some l => some (.ret (.tup l), h)
    | none => none
  | [], .pan ch, h => some (.pan ch, h)
  | d :: ds, u, h =>
    match d.f with
    | .func f => match G true f (cat d.args d.cap) h u with
      | some (.ret _, h', u') => leaveA G tm rs ds (settleA u') h'
      | some (.pan ch, h', u') => leaveA G tm rs ds (raisedA u' ch) h'
      | none => none
    | _ => none

def callA (E : Nat → Option AFunc) (r : CodeF × CallF) : CallF := fun dfr f args h cm =>
  match E f with
  | none => none
  | some fn =>
    if Nat.beq (ln args) fn.np then
      match r.1 fn.body dfr ⟨cat args fn.pad, []⟩ h cm with
      | some (x, a', h', cm') =>
        match (match x with | .normal => some AMode.ret | .ret => some .ret | .pan ch => some (.pan ch) | .exit _ => none) with
        | some u => match leaveA r.2 a'.tm fn.res a'.df u h' with
          | some (e, h'') => some (e, h'', cm')
          | none => none
        | none => none
      | none => none
    else none

def ev (E : Nat → Option AFunc) : Nat → CodeF × CallF
  | 0 => (fun _ _ _ _ _ => none, fun _ _ _ _ _ => none)
  | n + 1 => (codeA (ev E n), callA E (ev E n))

end Go.Am
end
