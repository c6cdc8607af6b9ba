/- The abstract machine, part 4: from the model's code to the abstract machine's. Conditions: none. -/
import Derived.Test.YtfaeabhbeolpgaaGreatDoorMa2
set_option linter.all false
noncomputable section
namespace Go.Am

def cval1 : Value → Option AVal
  | .bool b => some (.bool b)
  | .int k n => some (.int k n)
  | .string s => some (.str s.data.toList)
  | .pointer none => some .nilp
  | .slice none 0 0 => some .nils
  | .map none => some .nilm
  | .nilFunc => some .nilf
  | .nilIface => some .nili
  | _ => none
def cvals : List Value → Option (List AVal)
  | [] => some []
  | v :: l => match cval1 v, cvals l with
    | some a, some r => some (a :: r)
    | _, _ => none
def cval : Value → Option AVal
  | .agg ⟨l⟩ => match cvals l with
    | some r => some (.agg r)
    | none => none
  | .tuple ⟨l⟩ => match cvals l with
    | some r => some (.tup r)
    | none => none
  | v => cval1 v

def copd (G : Nat → Option Nat) : Operand → Option AOpd
  | .tmp t => some (.t t)
  | .const v => match cval v with
    | some a => some (.c a)
    | none => none
  | .global g => match G g with
    | some a => some (.c (.ptr a 0))
    | none => none
  | .func f => some (.c (.fn (.func f) [] []))
def copds (G : Nat → Option Nat) : List Operand → Option (List AOpd)
  | [] => some []
  | x :: l => match copd G x, copds G l with
    | some a, some r => some (a :: r)
    | _, _ => none
def copdO (G : Nat → Option Nat) : Option Operand → Option (Option AOpd)
  | none => some none
  | some x => match copd G x with
    | some a => some (some a)
    | none => none

def aggP (P : Program) (t : TypeId) : Option Bool :=
  match P.underlying t with
  | some (.struct _) | some (.array _ _) => some true
  | some _ => some false
  | none => none
def szP (P : Program) (t : TypeId) : Option Nat := (P.info? t).map (·.size)
def zeroP (P : Program) (t : TypeId) : Option (List AVal) :=
  match P.info? t with
  | some i => match i.zero with
    | some v => cvals v.cells.toList
    | none => none
  | none => none

def zeroV (P : Program) (t : TypeId) : Option AVal :=
  match P.info? t with
  | some i => match i.zero with
    | some v => cval v
    | none => none
  | none => none
def keyK (P : Program) (t : TypeId) : Option KeyK :=
  match P.underlying t with
  | some .bool => some .bool
  | some (.int _) => some .int
  | some .string => some .str
  | _ => none
/-- The kinds of a struct's fields, all of them plain, one cell each. -/
def flatF (P : Program) : Nat → List Field → Option (List KeyK)
  | _, [] => some []
  | i, f :: fs => if f.name != "_" && Nat.beq f.offset i then match keyK P f.type, flatF P (i + 1) fs with
      | some k, some sh => some (k :: sh)
      | _, _ => none
    else none
def eqK (P : Program) (t : TypeId) : Option EqK :=
  match P.underlying t with
  | some .bool => some .bool
  | some (.pointer _) => some .ptr
  | some (.slice _) => some .slice
  | some (.map _ _) => some .map
  | some (.func _ _ _) => some .func
  | some (.struct fs) => if !P.stoodInHeld t && !P.eqGuardType P.depth t then (flatF P 0 fs.toList).map .agg else none
  | some (.array n e) => if !P.eqGuardType P.depth t then match keyK P e, szP P e with
      | some k, some 1 => some (.agg (List.replicate n k))
      | _, _ => none
    else none
  | _ => none
def isConstO : Operand → Bool
  | .const _ => true
  | _ => false

def cparts (G : Nat → Option Nat) (place : Nat → Option (Nat × Nat)) : List (Nat × Operand) → Option (List (Nat × Nat × AOpd))
  | [] => some []
  | (i, x) :: l => match place i, copd G x, cparts G place l with
    | some (o, s), some a, some r => some ((o, s, a) :: r)
    | _, _, _ => none
def cpartsS (G : Nat → Option Nat) : List (Nat × Operand) → Option (List (Nat × AOpd))
  | [] => some []
  | (i, x) :: l => match copd G x, cpartsS G l with
    | some a, some r => some ((i, a) :: r)
    | _, _ => none

def fieldPl (P : Program) (fs : Array Field) (i : Nat) : Option (Nat × Nat) :=
  match fs[i]? with
  | some f => match szP P f.type with
    | some s => some (f.offset, s)
    | none => none
  | none => none

def u1 (G : Nat → Option Nat) (x : Operand) (f : AOpd → AOp) : Option AOp := (copd G x).map f
def u2 (G : Nat → Option Nat) (x y : Operand) (f : AOpd → AOpd → AOp) : Option AOp :=
  match copd G x, copd G y with
  | some a, some b => some (f a b)
  | _, _ => none
def u3 (G : Nat → Option Nat) (x y z : Operand) (f : AOpd → AOpd → AOpd → AOp) : Option AOp :=
  match copd G x, copd G y, copd G z with
  | some a, some b, some c => some (f a b c)
  | _, _, _ => none

def appBad (P : Program) (ts : Array TypeId) (n m : Nat) : Bool :=
  (match ts[1]? with
   | some t => match P.underlying t with
     | some (.int _) => true
     | none => true
     | _ => false
   | none => false) || !(Nat.beq n m)

def ccall (P : Program) (G : Nat → Option Nat) (c : Call) : Option AOp :=
  match c.callee, copds G c.args.toList with
  | .value (.func f), some l => some (.call f l)
  | .value f, some l => u1 G f fun a => .dyn a l
  | .builtin .len, some [x] => match c.argTypes[0]? with
    | some t => match P.underlying t with
      | some .string => some (.len .str x)
      | some (.slice _) => some (.len .sl x)
      | some (.map _ _) => some (.len .map x)
      | some (.array n _) => some (.mov (.c (.int .i64 n)))
      | some (.pointer a) => match P.underlying a with
        | some (.array n _) => some (.mov (.c (.int .i64 n)))
        | _ => none
      | _ => none
    | none => none
  | .builtin .append, some [s, x] => match c.argTypes[0]? with
    | some t => match P.underlying t with
      | some (.slice e) => match P.info? e with
        | some i => match zeroP P e with
          | some z => if appBad P c.argTypes (ln z) i.size then none
            else some (.app i.size i.bytes s x)
          | none => none
        | none => none
      | _ => none
    | none => none
  | .builtin .copy, some [d, s] => match c.argTypes[0]? with
    | some t => match P.underlying t with
      | some (.slice e) => (szP P e).map fun k => .cpy k d s
      | _ => none
    | none => none
  | .builtin .clear, some [x] => match c.argTypes[0]? with
    | some t => match P.underlying t with
      | some (.slice e) => (zeroP P e).map fun z => .clr z x
      | _ => none
    | none => none
  | .builtin .min, some l => some (.min l)
  | .builtin .max, some l => some (.max l)
  | .builtin .recover, some _ => some .recover
  | _, _ => none

def cbin (P : Program) (G : Nat → Option Nat) (op : BinOp) (t : TypeId) (x y : Operand) : Option AOp :=
  match P.underlying t with
  | some (.int _) => u2 G x y (.bin op)
  | some .string => u2 G x y (.bin op)
  | some (.interface _) =>
    if isConstO x || isConstO y then
      if op = .eql then u2 G x y (.eq .iface false)
      else if op = .neq then u2 G x y (.eq .iface true)
      else none
    else none
  | _ => match eqK P t with
    | some k => if op = .eql then u2 G x y (.eq k false)
      else if op = .neq then u2 G x y (.eq k true)
      else none
    | none => none

def cconv (P : Program) (G : Nat → Option Nat) (s d : TypeId) (x : Operand) : Option AOp :=
  match P.underlying s, P.underlying d with
  | some (.int _), some (.int k) => u1 G x (.convI k)
  | some .string, some .string => u1 G x .strv
  | some .string, some (.slice e) => match P.underlying e with
    | some (.int .u8) => u1 G x .convSB
    | _ => none
  | some (.slice e), some (.slice _) => match P.underlying e with
    | some (.int .u8) => if Nat.beq s d then u1 G x .convSS else none
    | _ => none
  | some (.slice e), some .string => match P.underlying e with
    | some (.int .u8) => u1 G x .convBS
    | _ => none
  | _, _ => none

def cslice (P : Program) (G : Nat → Option Nat) (t : TypeId) (x : Operand) (lo hi mx : Option Operand) : Option AOp :=
  if mx.isSome && hi.isNone then none else
  match copdO G lo, copdO G hi, copdO G mx with
  | some lo, some hi, some mx =>
    match P.underlying t with
    | some .string => match mx with
      | none => u1 G x fun x => .slcS x lo hi
      | some _ => none
    | some (.slice e) => match szP P e with
      | some k => u1 G x fun x => .slc k x lo hi mx
      | none => none
    | some (.array n e) => match mx, szP P e with
      | none, some k => u1 G x fun x => .slcA k n x lo hi
      | _, _ => none
    | some (.pointer a) => match P.underlying a with
      | some (.array n e) => match mx, szP P e with
        | none, some k => u1 G x fun x => .slcA k n x lo hi
        | _, _ => none
      | _ => none
    | _ => none
  | _, _, _ => none

def cop (P : Program) (G : Nat → Option Nat) (op : Op) : Option AOp :=
  match op with
  | .move x | .assign x => u1 G x .mov
  | .pick c a b => u3 G c a b .pick
  | .alloc e => (zeroP P e).map .alloc
  | .box _ x => u1 G x .box
  | .build t ps => match zeroP P t, P.underlying t with
    | some z, some (.struct fs) => if !(fs.toList.all fun f => (szP P f.type).isSome) then none else (cparts G (fieldPl P fs) ps.toList).map (.build z)
    | some z, some (.array _ e) => match szP P e with
      | some s => (cparts G (fun i => some (i * s, s)) ps.toList).map (.build z)
      | none => none
    | _, _ => none
  | .buildSlice t n ps => match P.underlying t with
    | some (.slice e) => match zeroP P e, szP P e with
      | some z, some k => if Nat.beq (ln z) k && Nat.ble (n * k) 16777216 then (cpartsS G ps.toList).map (.bslice z k n) else none
      | _, _ => none
    | _ => none
  | .insert t m k v | .mapUpdate t m k v => match P.underlying t with
    | some (.map kt _) => match keyK P kt with
      | some kk => u3 G m k v (.mupd kk)
      | none => none
    | _ => none
  | .load t a => match aggP P t, szP P t with
    | some true, some n => u1 G a (.loadN n)
    | some false, some _ => u1 G a .load1
    | _, _ => none
  | .store t a x => match szP P t with
    | some n => u2 G a x (.store n)
    | none => none
  | .nilCheck x => u1 G x .nilchk
  | .binOp op t x y _ => cbin P G op t x y
  | .unOp op _ x => u1 G x (.un op)
  | .convert s d x => cconv P G s d x
  | .makeInterface t x => match P.underlying t with
    | some (.interface _) | none => none
    | some _ => u1 G x (.mki t)
  | .makeFunc f a c => match copds G a.toList, copds G c.toList with
    | some a, some c => some (.mkf f a c)
    | _, _ => none
  | .makeMap _ none => some .mkmap
  | .makeSlice t l c => match P.underlying t with
    | some (.slice e) => match zeroP P e, P.info? e with
      | some z, some i => if Nat.beq (ln z) i.size then u2 G l c (.mksl z i.bytes) else none
      | _, _ => none
    | _ => none
  | .slice t x lo hi mx => cslice P G t x lo hi mx
  | .fieldAddr s x f => match P.underlying s with
    | some (.struct fs) => match fs[f]? with
      | some f => match szP P f.type with
        | some (_ + 1) => u1 G x (.faddr f.offset)
        | _ => none
      | none => none
    | _ => none
  | .field t x f => match P.underlying t with
    | some (.struct fs) => match fs[f]? with
      | some f => match aggP P f.type, szP P f.type with
        | some true, some n => u1 G x (.fld f.offset (some n))
        | some false, some _ => u1 G x (.fld f.offset none)
        | _, _ => none
      | none => none
    | _ => none
  | .indexAddr t x i => match P.underlying t with
    | some (.slice e) => match szP P e with
      | some k => u2 G x i (.iaddrS k)
      | none => none
    | some (.array n e) => match szP P e with
      | some k => u2 G x i (.iaddrA k n)
      | none => none
    | _ => none
  | .index t x i => match P.underlying t with
    | some .string => u2 G x i .idxS
    | some (.array n e) => match aggP P e, szP P e with
      | some ag, some k => u2 G x i (.idxA k n ag)
      | _, _ => none
    | _ => none
  | .lookup t x i ok => match P.underlying t with
    | some (.map k e) => match zeroV P e, keyK P k with
      | some z, some kk => u2 G x i (.lookup kk z ok)
      | _, _ => none
    | _ => none
  | .typeAssert x _ t ok => match P.underlying t with
    | some (.interface _) | none => none
    | some _ => match zeroV P t with
      | some z => u1 G x (.tassert t z ok)
      | none => none
  | .extract x i => u1 G x (.ext i)
  | .call c => ccall P G c
  | .defer c => match c.callee, copds G c.args.toList with
    | .value f, some l => u1 G f fun a => .defer a l
    | _, _ => none
  | .panic x => u1 G x .panic
  | _ => none

def copB (P : Program) (G : Nat → Option Nat) (op : Op) : AOp :=
  match cop P G op with
  | some a => a
  | none => .bad

def cguard (ops : Array Oper) : Option (Nat × Bool) → Option (Option (Nat × Bool))
  | none => some none
  | some (j, b) => match (ops[j]?).bind (·.dst) with
    | some d => some (some (d, b))
    | none => none

def cins (P : Program) (G : Nat → Option Nat) (ops : Array Oper) (o : Oper) : Option AIns :=
  match cguard ops o.guard with
  | some g => some ⟨o.dst, copB P G o.op, g⟩
  | none => none
def cinss (P : Program) (G : Nat → Option Nat) (ops : Array Oper) : List Oper → Option (List AIns)
  | [] => some []
  | o :: l => match cins P G ops o, cinss P G ops l with
    | some a, some r => some (a :: r)
    | _, _ => none

/-! ### Regions of several orders -/
def ancRow (acc : List Nat) : List Nat → Nat
  | [] => 0
  | m :: ps => Nat.lor (Nat.lor (ancRow acc ps) (Nat.shiftLeft 1 m)) ((nth acc m).getD 0)
/-- For each operation the set of those that come before it in every order. -/
def ancs : List (List Nat) → List Nat → List Nat
  | [], acc => acc
  | ps :: l, acc => ancs l (cat acc [ancRow acc ps])
def has (A : List Nat) (j i : Nat) : Bool := Nat.testBit ((nth A j).getD 0) i

def preOf (o : Oper) : List Nat := (o.after.toList.filter (Region.binds .any)).map (·.on)
def insT (i : AIns) : List Nat := match i.guard with
  | some (t, _) => t :: opT i.op
  | none => opT i.op

def isLd (i : AIns) : Bool := !isPure i.op && !isAl i.op
def loudsOf : List AIns → Nat → List Nat
  | [], _ => []
  | i :: l, n => if isLd i then n :: loudsOf l (n + 1) else loudsOf l (n + 1)

/-- The window of a phase. -/
def mkWin (A : List Nat) (x prev : Option Nat) : List AIns → Nat → Nat → Nat → List IW
  | [], _, _, _ => []
  | i :: l, n, k, done =>
    let can := (match x with | some x => !has A n x | none => true)
    let dn := Nat.testBit done n
    if isPure i.op then
      (if can then if dn then (if (match prev with | some y => has A y n | none => false) then mkWin A x prev l (n + 1) k done else .again n :: mkWin A x prev l (n + 1) k done)
        else .one n :: mkWin A x prev l (n + 1) k done
       else mkWin A x prev l (n + 1) k done)
    else if isAl i.op then (if can && !dn then .res n k :: mkWin A x prev l (n + 1) (k + 1) done else mkWin A x prev l (n + 1) (k + 1) done)
    else mkWin A x prev l (n + 1) k done
def mkAd (A : List Nat) (x : Option Nat) : List AIns → Nat → Nat → Nat → List (Nat × Nat)
  | [], _, _, _ => []
  | i :: l, n, k, ad =>
    if isAl i.op then
      (if !Nat.testBit ad n && (match x with | some x => has A x n | none => true) then (n, k) :: mkAd A x l (n + 1) (k + 1) ad else mkAd A x l (n + 1) (k + 1) ad)
    else mkAd A x l (n + 1) k ad
def addW : List IW → Nat → Nat
  | [], d => d
  | .one n :: l, d => addW l (Nat.lor d (Nat.shiftLeft 1 n))
  | .again _ :: l, d => addW l d
  | .res n _ :: l, d => addW l (Nat.lor d (Nat.shiftLeft 1 n))
def addD : List (Nat × Nat) → Nat → Nat
  | [], d => d
  | (n, _) :: l, d => addD l (Nat.lor d (Nat.shiftLeft 1 n))
def mkPlan (A : List Nat) (ops : List AIns) : Option Nat → List Nat → Nat → Nat → List IPh
  | prev, [], done, ad =>
    let w := mkWin A none prev ops 0 0 done
    [⟨w, mkAd A none ops 0 0 ad, none⟩]
  | prev, x :: xs, done, ad =>
    let w := mkWin A (some x) prev ops 0 0 done
    let a := mkAd A (some x) ops 0 0 ad
    ⟨w, a, some x⟩ :: mkPlan A ops (some x) xs (Nat.lor (addW w done) (Nat.shiftLeft 1 x)) (addD a ad)

def cntAl : List AIns → Nat
  | [] => 0
  | i :: l => if isAl i.op then cntAl l + 1 else cntAl l

/-! What a plan must be. -/
def pureAt (ops : List AIns) (n : Nat) : Bool := match nth ops n with | some i => isPure i.op | none => false
def alAt (ops : List AIns) (n : Nat) : Bool := match nth ops n with | some i => isAl i.op | none => false
def dstAt (ops : List AIns) (n : Nat) : Option Nat := match nth ops n with | some i => i.dst | none => none
def inM (d n : Nat) : Bool := Nat.testBit d n
def subM (a d : Nat) : Bool := Nat.beq (Nat.land a d) a
def ancOf (A : List Nat) (n : Nat) : Nat := (nth A n).getD 0
def addM (d n : Nat) : Nat := Nat.lor d (Nat.shiftLeft 1 n)

/-- What n looks at is not yet turned by a later operation. -/
def notYet (ops : List AIns) (A : List Nat) (n d : Nat) : Bool :=
  match nth ops n with
  | some i => (insT i).all (fun t => (List.range (ln ops)).all (fun q => !(dstAt ops q == some t) || has A n q || !inM d q))
  | none => false
def chkW (ops : List AIns) (A : List Nat) : List IW → Nat → Option Nat
  | [], d => some d
  | .one n :: l, d => if pureAt ops n && !inM d n && subM (ancOf A n) d then chkW ops A l (addM d n) else none
  | .again n :: l, d => if pureAt ops n && inM d n && subM (ancOf A n) d && notYet ops A n d then chkW ops A l d else none
  | .res n _ :: l, d => if alAt ops n && !inM d n && subM (ancOf A n) d then chkW ops A l (addM d n) else none
def memW (n : Nat) : List IW → Bool
  | [] => false
  | .one m :: l => Nat.beq m n || memW n l
  | .again m :: l => Nat.beq m n || memW n l
  | .res _ _ :: l => memW n l
def memR (n k : Nat) : List IW → Bool
  | [] => false
  | .one _ :: l => memR n k l
  | .again _ :: l => memR n k l
  | .res m q :: l => (Nat.beq m n && Nat.beq q k) || memR n k l
def memL (x : Nat) : List IPh → Bool
  | [] => false
  | p :: ps => (match p.loud with | some y => Nat.beq y x | none => false) || memL x ps
def allAd : List IPh → List (Nat × Nat)
  | [] => []
  | p :: ps => cat p.adopt (allAd ps)
def memPR (n k : Nat) : List IPh → Bool
  | [] => false
  | p :: ps => memR n k p.win || memPR n k ps
def laterOK (A : List Nat) (x : Nat) : List IPh → Bool
  | [] => true
  | p :: ps => (match p.loud with | some y => has A y x | none => true) && laterOK A x ps
/-- The phases in order. -/
def chkPh (ops : List AIns) (A : List Nat) (nn : List Nat) : Option Nat → List IPh → Nat → Bool
  | _, [], _ => false
  | prev, p :: ps, d => match chkW ops A p.win d with
    | none => false
    | some d1 =>
      nn.all (fun j => !pureAt ops j || memW j p.win || (match p.loud with | some x => has A j x | none => false) || (match prev with | some y => has A y j | none => false)) &&
      p.adopt.all (fun q => inM d1 q.1 && subM (ancOf A q.1) d1 && alAt ops q.1 && notYet ops A q.1 d1) &&
      match p.loud with
      | none => (match ps with | [] => true | _ => false)
      | some x => !pureAt ops x && !alAt ops x && !inM d1 x && subM (ancOf A x) d1 && p.adopt.all (fun q => has A x q.1) && laterOK A x ps && chkPh ops A nn (some x) ps (addM d1 x)
def distinctA : List (Nat × Nat) → Bool
  | [] => true
  | x :: l => l.all (fun y => !Nat.beq x.1 y.1 && !Nat.beq x.2 y.2) && distinctA l
def chkPlan (ops : List AIns) (pre : List (List Nat)) (kk : Nat) (plan : List IPh) : Bool :=
  let A := ancs pre []
  let nn := List.range (ln ops)
  Nat.beq (ln pre) (ln ops) &&
  nn.all (fun j => ((nth pre j).getD []).all (fun m => Nat.blt m j)) &&
  nn.all (fun j => match nth ops j with
    | some i => (insT i).all (fun t => nn.all (fun q => !(dstAt ops q == some t) || has A j q || has A q j))
    | none => true) &&
  nn.all (fun j => match dstAt ops j with
    | some t => nn.all (fun q => Nat.beq q j || !(dstAt ops q == some t))
    | none => true) &&
  nn.all (fun j => pureAt ops j || (if alAt ops j then (allAd plan).any (fun q => Nat.beq q.1 j && memPR j q.2 plan) else memL j plan)) &&
  distinctA (allAd plan) && (allAd plan).all (fun q => Nat.blt q.2 kk) &&
  chkPh ops A nn none plan 0

def cdreg (ops : List AIns) (pre : List (List Nat)) : ACode :=
  let A := ancs pre []
  let plan := mkPlan A ops none (loudsOf ops 0) 0 0
  let kk := cntAl ops
  if chkPlan ops pre kk plan then .dreg kk ops plan else .bad

def ccode (P : Program) (G : Nat → Option Nat) : Code → ACode
  | .skip => .skip
  | .label _ => .skip
  | .region _ ops false => match cinss P G ops ops.toList with
    | some l => .reg l
    | none => .bad
  | .region _ ops true => match cinss P G ops ops.toList with
    | some l => cdreg l (ops.toList.map preOf)
    | none => .bad
  | .seq a b => .seq (ccode P G a) (ccode P G b)
  | .cond c a b => match copd G c with
    | some c => .cond c (ccode P G a) (ccode P G b)
    | none => .bad
  | .block id b => .block id (ccode P G b)
  | .loop b => .loop (ccode P G b)
  | .scope b => .scope (ccode P G b)
  | .exit id => .exit id
  | .ret => .ret
  | _ => .bad

def crv (P : Program) : List ResultVar → Option (List ARV)
  | [] => some []
  | .tmp t :: l => (crv P l).map (.tmp t :: ·)
  | .cell t ty :: l => match aggP P ty, szP P ty, crv P l with
    | some true, some n, some r => some (.cell t (some n) :: r)
    | some false, some _, some r => some (.cell t none :: r)
    | _, _, _ => none

def cfunc (P : Program) (G : Nat → Option Nat) (fn : Func) : Option AFunc :=
  match fn.body with
  | none => none
  | some c => match crv P fn.results.toList with
    | some r => some ⟨fn.params.size + fn.nfree, List.replicate (fn.ntmps - (fn.params.size + fn.nfree)) und, r, ccode P G c⟩
    | none => none

end Go.Am

/- The abstract machine, part 5: what allocations, stores and loads do to the relation. Conditions: none. -/
namespace Go.Am

theorem add_none (b o n : Nat) : (⟨b, o, none⟩ : Addr).add n = ⟨b, o + n, none⟩ := by
  unfold Addr.add; split
  · next h => subst h; rfl
  · rfl

def Gh.ext (ι : Gh) (g : Nat) (i : Inf) : Gh := fun x => if x = g then some i else ι x
theorem Gh.ext_same (ι : Gh) (g : Nat) (i : Inf) : (ι.ext g i) g = some i := by simp [Gh.ext]
theorem Gh.le_ext {ι : Gh} {g : Nat} (i : Inf) (h : ι g = none) : ι.le (ι.ext g i) := by
  intro x j hx
  unfold Gh.ext
  split
  · next e => subst e; rw [h] at hx; cases hx
  · exact hx

section
variable {G : Nat → Option Nat} {ι : Gh} {h : Hp} {w : World}

theorem Rel.of_heap {w' : World} (R : Rel G ι h w) (e : w'.heap = w.heap) : Rel G ι h w' :=
  ⟨fun g o hg => let ⟨i, h1, h2⟩ := R.ob g o hg; ⟨i, h1, h2.of_block (by rw [e]) (by rw [e]; exact Nat.le_refl _)⟩, R.nx, R.sp, R.gl⟩
theorem Fr.of_heap {w' : World} (e : w'.heap = w.heap) (h1 : w'.os = w.os) (h2 : w'.tape = w.tape) (h3 : w'.output = w.output) : Fr ι h w ι h w' :=
  ⟨Gh.le_refl _, h1, h2, h3, by rw [e]; exact Nat.le_refl _, fun _ _ _ => by rw [e], fun _ h => .inl h, fun _ h => .inl h, Nat.le_refl _, fun _ _ => ⟨rfl, id⟩⟩

theorem Rel.lt_next (R : Rel G ι h w) {g : Nat} {o : Obj} (hg : h.m.get g = some o) : g < h.next := by
  rcases Nat.lt_or_ge g h.next with h' | h'
  · exact h'
  · obtain ⟨i, h1, _⟩ := R.ob g o hg
    rw [R.nx g h'] at h1; cases h1

theorem heap_alloc_lt (w : World) (O : Go.Obj) {b : Nat} (hb : b < w.heap.size) : (w.alloc O).heap[b]? = w.heap[b]? := by
  simp only [World.alloc, Array.getElem?_push]; rw [if_neg (by omega)]

/-- A new block, and a new abstract one for it. -/
theorem rel_new' (R : Rel G ι h w) (o : Obj) {w' : World} (i : Inf) (hb : i.b = w.heap.size) (hs : w'.heap.size = w.heap.size + 1) (hold : ∀ B, B < w.heap.size → w'.heap[B]? = w.heap[B]?)
    (h1 : w'.os = w.os) (h2 : w'.tape = w.tape) (h3 : w'.output = w.output) (ho : ObjOK ι o i w') :
    Rel G (ι.ext h.next i) (h.new o) w' ∧ Fr ι h w (ι.ext h.next i) (h.new o) w' := by
  have hle : ι.le (ι.ext h.next i) := Gh.le_ext i (R.nx _ (Nat.le_refl _))
  refine ⟨⟨fun g o' hg => ?_, fun g hg => ?_, fun g g' o1 o2 i1 i2 h1 h2 h3 h4 h5 h6 => ?_, fun x g hx => ?_⟩, hle, h1, h2, h3, by omega, fun B hB _ => hold B hB, ?_, ?_, by simp [Hp.new], fun g hg => ⟨by simp only [Gh.ext]; rw [if_neg (by omega)], fun h0 => by simp only [Hp.new, Tree.get_put]; rw [if_neg (by omega)]; exact h0⟩⟩
  · simp only [Hp.new, Tree.get_put] at hg
    split at hg
    · next e => subst e; cases hg; exact ⟨i, Gh.ext_same _ _ _, ho.mono hle⟩
    · obtain ⟨j, h1, h2⟩ := R.ob g o' hg
      exact ⟨j, hle _ _ h1, (h2.of_block (hold _ h2.1) (by omega)).mono hle⟩
  · simp only [Hp.new] at hg
    simp only [Gh.ext]; rw [if_neg (by omega)]; exact R.nx g (by omega)
  · simp only [Hp.new, Tree.get_put] at h1 h2
    by_cases e1 : g = h.next
    · by_cases e2 : g' = h.next
      · exact absurd (e1.trans e2.symm) h6
      · subst e1
        rw [Gh.ext_same] at h3; cases h3
        rw [if_neg e2] at h2
        obtain ⟨j, k1, k2⟩ := R.ob g' o2 h2
        rw [hle _ _ k1] at h4; cases h4
        have := k2.1; omega
    · rw [if_neg e1] at h1
      obtain ⟨j, k1, k2⟩ := R.ob g o1 h1
      rw [hle _ _ k1] at h3; cases h3
      by_cases e2 : g' = h.next
      · subst e2
        rw [Gh.ext_same] at h4; cases h4
        have := k2.1; omega
      · rw [if_neg e2] at h2
        obtain ⟨j', k1', k2'⟩ := R.ob g' o2 h2
        rw [hle _ _ k1'] at h4; cases h4
        exact R.sp g g' o1 o2 _ _ h1 h2 k1 k1' h5 h6
  · obtain ⟨j, k1, k2, k3⟩ := R.gl x g hx
    exact ⟨j, hle _ _ k1, k2, k3⟩
  · rintro B ⟨g, o', j, h1, h2, h3, h4⟩
    simp only [Hp.new, Tree.get_put] at h1
    split at h1
    · next e => subst e; rw [Gh.ext_same] at h3; cases h3; right; omega
    · obtain ⟨j', k1, k2⟩ := R.ob g o' h1
      rw [hle _ _ k1] at h3; cases h3
      exact .inl ⟨g, o', j, h1, h2, k1, h4⟩
  · rintro B ⟨g, o', j, h1, h3, h4⟩
    simp only [Hp.new, Tree.get_put] at h1
    split at h1
    · next e => subst e; rw [Gh.ext_same] at h3; cases h3; right; omega
    · obtain ⟨j', k1, k2⟩ := R.ob g o' h1
      rw [hle _ _ k1] at h3; cases h3
      exact .inl ⟨g, o', j, h1, k1, h4⟩

theorem rel_new (R : Rel G ι h w) (o : Obj) (O : Go.Obj) (i : Inf) (hb : i.b = w.heap.size) (ho : ObjOK ι o i (w.alloc O)) :
    Rel G (ι.ext h.next i) (h.new o) (w.alloc O) ∧ Fr ι h w (ι.ext h.next i) (h.new o) (w.alloc O) :=
  rel_new' R o i hb (by simp) (fun B hB => heap_alloc_lt w O hB) rfl rfl rfl ho

/-- An owned block is turned in place. -/
theorem rel_set (R : Rel G ι h w) {g : Nat} {o o' : Obj} {i : Inf} {w' : World} (hg : h.m.get g = some o) (how : o.ow = true) (hi : ι g = some i)
    (hs : w'.heap.size = w.heap.size) (hb : ∀ B, B ≠ i.b → w'.heap[B]? = w.heap[B]?) (h1 : w'.os = w.os) (h2 : w'.tape = w.tape) (h3 : w'.output = w.output)
    (ho : ObjOK ι o' i w') : Rel G ι (h.set g o') w' ∧ Fr ι h w ι (h.set g o') w' := by
  refine ⟨⟨fun x p hx => ?_, fun x hx => R.nx x hx, fun x x' p p' j j' k1 k2 k3 k4 k5 k6 => ?_, R.gl⟩, Gh.le_refl _, h1, h2, h3, Nat.le_of_eq hs.symm, fun B _ hB => ?_, ?_, ?_, Nat.le_refl _, fun x _ => ⟨rfl, fun h0 => by
    simp only [Hp.set, Tree.get_put]
    split
    · next e => subst e; rw [hg] at h0; cases h0
    · exact h0⟩⟩
  · simp only [Hp.set, Tree.get_put] at hx
    split at hx
    · next e => subst e; cases hx; exact ⟨i, hi, ho⟩
    · next e =>
      obtain ⟨j, k1, k2⟩ := R.ob x p hx
      exact ⟨j, k1, k2.of_block (hb _ (R.sp g x o p i j hg hx hi k1 how (Ne.symm e)).symm) (Nat.le_of_eq hs.symm)⟩
  · simp only [Hp.set, Tree.get_put] at k1 k2
    split at k1
    · next e =>
      subst e; cases k1
      rw [if_neg (Ne.symm k6)] at k2
      exact R.sp x x' o p' j j' hg k2 k3 k4 how k6
    · next e =>
      split at k2
      · next e2 => subst e2; cases k2; exact R.sp x x' p o j j' k1 hg k3 k4 k5 k6
      · exact R.sp x x' p p' j j' k1 k2 k3 k4 k5 k6
  · exact hb B fun e => hB ⟨g, o, i, hg, how, hi, e.symm⟩
  · rintro B ⟨x, p, j, k1, k2, k3, k4⟩
    simp only [Hp.set, Tree.get_put] at k1
    split at k1
    · next e => subst e; rw [hi] at k3; cases k3; exact .inl ⟨x, o, i, hg, how, hi, k4⟩
    · exact .inl ⟨x, p, j, k1, k2, k3, k4⟩
  · rintro B ⟨x, p, j, k1, k3, k4⟩
    simp only [Hp.set, Tree.get_put] at k1
    split at k1
    · next e => subst e; rw [hi] at k3; cases k3; exact .inl ⟨x, o, i, hg, hi, k4⟩
    · exact .inl ⟨x, p, j, k1, k3, k4⟩

/-- An abstract block is given up. -/
theorem rel_del (R : Rel G ι h w) (g : Nat) : Rel G ι (h.del g) w ∧ Fr ι h w ι (h.del g) w := by
  have key : ∀ x p, (h.del g).m.get x = some p → h.m.get x = some p := by
    intro x p hx
    simp only [Hp.del, Tree.get_put] at hx
    split at hx
    · cases hx
    · exact hx
  refine ⟨⟨fun x p hx => R.ob x p (key x p hx), R.nx, fun x x' p p' j j' k1 k2 => R.sp x x' p p' j j' (key _ _ k1) (key _ _ k2), R.gl⟩, Gh.le_refl _, rfl, rfl, rfl, Nat.le_refl _, fun _ _ _ => rfl, ?_, ?_, Nat.le_refl _, fun x _ => ⟨rfl, fun h0 => by
    simp only [Hp.del, Tree.get_put]
    split
    · rfl
    · exact h0⟩⟩
  · rintro B ⟨x, p, j, k1, k2, k3, k4⟩
    exact .inl ⟨x, p, j, key _ _ k1, k2, k3, k4⟩
  · rintro B ⟨x, p, j, k1, k3, k4⟩
    exact .inl ⟨x, p, j, key _ _ k1, k3, k4⟩

/-- An owned block goes over to a new abstract block, turned in place. -/
theorem rel_move (R : Rel G ι h w) {g : Nat} {o o' : Obj} {i i' : Inf} {w' : World} (hg : h.m.get g = some o) (how : o.ow = true) (hi : ι g = some i) (hib : i'.b = i.b)
    (hs : w'.heap.size = w.heap.size) (hb : ∀ B, B ≠ i.b → w'.heap[B]? = w.heap[B]?) (h1 : w'.os = w.os) (h2 : w'.tape = w.tape) (h3 : w'.output = w.output)
    (ho : ObjOK ι o' i' w') : Rel G (ι.ext h.next i') ((h.del g).new o') w' ∧ Fr ι h w (ι.ext h.next i') ((h.del g).new o') w' := by
  have hle : ι.le (ι.ext h.next i') := Gh.le_ext i' (R.nx _ (Nat.le_refl _))
  have hgn : g ≠ h.next := Nat.ne_of_lt (R.lt_next hg)
  have key : ∀ x p, ((h.del g).new o').m.get x = some p → (x = h.next ∧ p = o') ∨ (x ≠ h.next ∧ x ≠ g ∧ h.m.get x = some p) := by
    intro x p hx
    simp only [Hp.del, Hp.new, Tree.get_put] at hx
    split at hx
    · next e => cases hx; exact .inl ⟨e, rfl⟩
    · split at hx
      · cases hx
      · next e1 e2 => exact .inr ⟨e1, e2, hx⟩
  refine ⟨⟨fun x p hx => ?_, fun x hx => ?_, fun x x' p p' j j' k1 k2 k3 k4 k5 k6 => ?_, fun x y hx => ?_⟩, hle, h1, h2, h3, Nat.le_of_eq hs.symm, fun B _ hB => ?_, ?_, ?_, by simp [Hp.new, Hp.del], fun x hx => ⟨by simp only [Gh.ext]; rw [if_neg (by omega)], fun h0 => by
    simp only [Hp.del, Hp.new, Tree.get_put]
    rw [if_neg (by omega)]
    split
    · rfl
    · exact h0⟩⟩
  · rcases key x p hx with ⟨rfl, rfl⟩ | ⟨e1, e2, e3⟩
    · exact ⟨i', Gh.ext_same _ _ _, ho.mono hle⟩
    · obtain ⟨j, k1, k2⟩ := R.ob x p e3
      exact ⟨j, hle _ _ k1, (k2.of_block (hb _ (R.sp g x o p i j hg e3 hi k1 how (Ne.symm e2)).symm) (Nat.le_of_eq hs.symm)).mono hle⟩
  · simp only [Hp.new, Hp.del] at hx
    simp only [Gh.ext]; rw [if_neg (by omega)]; exact R.nx x (by omega)
  · rcases key x p k1 with ⟨rfl, rfl⟩ | ⟨e1, e2, e3⟩
    · rw [Gh.ext_same] at k3; cases k3
      rcases key x' p' k2 with ⟨rfl, rfl⟩ | ⟨e1, e2, e3⟩
      · exact absurd rfl k6
      · obtain ⟨j2, l1, l2⟩ := R.ob x' p' e3
        rw [hle _ _ l1] at k4; cases k4
        rw [hib]; exact R.sp g x' o p' i j' hg e3 hi l1 how (Ne.symm e2)
    · obtain ⟨j1, l1, l2⟩ := R.ob x p e3
      rw [hle _ _ l1] at k3; cases k3
      rcases key x' p' k2 with ⟨rfl, rfl⟩ | ⟨f1, f2, f3⟩
      · rw [Gh.ext_same] at k4; cases k4
        rw [hib]; exact R.sp x g p o j i e3 hg l1 hi k5 e2
      · obtain ⟨j2, m1, m2⟩ := R.ob x' p' f3
        rw [hle _ _ m1] at k4; cases k4
        exact R.sp x x' p p' j j' e3 f3 l1 m1 k5 k6
  · obtain ⟨j, k1, k2, k3⟩ := R.gl x y hx
    exact ⟨j, hle _ _ k1, k2, k3⟩
  · exact hb B fun e => hB ⟨g, o, i, hg, how, hi, e.symm⟩
  · rintro B ⟨x, p, j, k1, k2, k3, k4⟩
    rcases key x p k1 with ⟨rfl, rfl⟩ | ⟨e1, e2, e3⟩
    · rw [Gh.ext_same] at k3; cases k3; exact .inl ⟨g, o, i, hg, how, hi, by omega⟩
    · obtain ⟨j1, l1, l2⟩ := R.ob x p e3
      rw [hle _ _ l1] at k3; cases k3
      exact .inl ⟨x, p, j, e3, k2, l1, k4⟩
  · rintro B ⟨x, p, j, k1, k3, k4⟩
    rcases key x p k1 with ⟨rfl, rfl⟩ | ⟨e1, e2, e3⟩
    · rw [Gh.ext_same] at k3; cases k3; exact .inl ⟨g, o, i, hg, hi, by omega⟩
    · obtain ⟨j1, l1, l2⟩ := R.ob x p e3
      rw [hle _ _ l1] at k3; cases k3
      exact .inl ⟨x, p, j, e3, l1, k4⟩
end

/-! ### Loads -/
theorem run_loadCellsFrom (P : Program) (w : World) (b o : Nat) : ∀ (n i : Nat) (acc : Array Value) (L : List Value), L.length = n →
    (∀ j V, L[j]? = some V → w.cell? ⟨b, o + i + j, none⟩ = some V) → (loadCellsFrom ⟨b, o, none⟩ i n acc).run P w = .ok (acc ++ L.toArray) w
  | 0, i, acc, L, hl, _ => by
    have : L = [] := List.length_eq_zero_iff.1 hl
    subst this; simp [loadCellsFrom]
  | n + 1, i, acc, [], hl, _ => by simp at hl
  | n + 1, i, acc, V :: L, hl, hc => by
    have h0 := hc 0 V (by simp)
    simp only [Nat.add_zero] at h0
    simp only [loadCellsFrom, add_none, Sem.run_bind, run_load, h0, Result.andThen_ok]
    rw [run_loadCellsFrom P w b o n (i + 1) (acc.push V) L (by simpa using hl) (fun j V' hj => by
      have := hc (j + 1) V' (by simpa using hj)
      rw [show o + (i + 1) + j = o + i + (j + 1) from by omega]; exact this)]
    simp

theorem run_loadCells (P : Program) (w : World) (b o n : Nat) (L : List Value) (hl : L.length = n)
    (hc : ∀ (j : Nat) (V : Value), L[j]? = some V → w.cell? ⟨b, o + j, none⟩ = some V) : (loadCells ⟨b, o, none⟩ n).run P w = .ok ⟨L⟩ w := by
  unfold loadCells
  rw [run_loadCellsFrom P w b o n 0 #[] L hl (by simpa using hc)]
  simp

/-! ### Stores -/
theorem setCell_heap_ne (w : World) (a : Addr) (v : Value) {B : Nat} (h : B ≠ a.block) : (w.setCell a v).heap[B]? = w.heap[B]? := by
  simp only [World.setCell, Array.getElem?_modify]; rw [if_neg (Ne.symm h)]

theorem setCell_heap_same (w : World) (b o : Nat) (v : Value) {cs : Array Value} {el : TypeId} {fz : Nat × Nat} (h : w.heap[b]? = some (.cells cs el fz)) :
    (w.setCell ⟨b, o, none⟩ v).heap[b]? = some (.cells (cs.setIfInBounds o v) el fz) := by
  simp only [World.setCell, Array.getElem?_modify, if_true, h, Option.map_some]
  simp

/-- A world in which one block of cells has been written over, from an offset on. -/
def wrote (cs : Array Value) (o : Nat) : List Value → Array Value
  | [] => cs
  | V :: L => wrote (cs.setIfInBounds o V) (o + 1) L
theorem wrote_size : ∀ (L : List Value) (cs : Array Value) (o : Nat), (wrote cs o L).size = cs.size
  | [], _, _ => rfl
  | V :: L, cs, o => by simp [wrote, wrote_size L]
theorem wrote_get : ∀ (L : List Value) (cs : Array Value) (o j : Nat), o + L.length ≤ cs.size → (wrote cs o L)[j]? = if o ≤ j ∧ j < o + L.length then L[j - o]? else cs[j]?
  | [], cs, o, j, _ => by
    have : ¬ (o ≤ j ∧ j < o) := by omega
    simp [wrote, this]
  | V :: L, cs, o, j, h => by
    simp only [List.length_cons] at h
    rw [wrote, wrote_get L _ (o + 1) j (by simpa using by omega)]
    simp only [List.length_cons]
    by_cases e : j = o
    · subst e
      rw [if_neg (by omega), if_pos (by omega)]
      simp [Array.getElem?_setIfInBounds]; omega
    · by_cases e2 : o + 1 ≤ j ∧ j < o + 1 + L.length
      · rw [if_pos e2, if_pos (by omega)]
        rw [show j - o = (j - (o + 1)) + 1 from by omega]; simp
      · rw [if_neg e2, if_neg (by omega)]
        simp [Ne.symm e]

def oneAll (L : List Value) : Prop := ∀ V ∈ L, V.oneCell' = true

theorem run_storeCells (P : Program) (b : Nat) (o : Nat) : ∀ (L : List Value) (w : World) (i : Nat) {cs : Array Value} {el : TypeId} {fz : Nat × Nat}, w.heap[b]? = some (.cells cs el fz) →
    o + i + L.length ≤ cs.size → (fz = (0, 0) ∨ cs.size ≤ fz.1) → oneAll L →
    ∃ w', (storeCells ⟨b, o, none⟩ L i).run P w = .ok () w' ∧ w'.heap[b]? = some (.cells (wrote cs (o + i) L) el fz) ∧ w'.heap.size = w.heap.size ∧ (∀ B, B ≠ b → w'.heap[B]? = w.heap[B]?) ∧
      w'.os = w.os ∧ w'.tape = w.tape ∧ w'.output = w.output
  | [], w, i, cs, el, fz, hb, _, _, _ => ⟨w, by simp [storeCells], by simpa [wrote] using hb, rfl, fun _ _ => rfl, rfl, rfl, rfl⟩
  | V :: L, w, i, cs, el, fz, hb, hl, hz, h1 => by
    simp only [List.length_cons] at hl
    have hcell : w.cell? ⟨b, o + i, none⟩ = cs[o + i]? := by simp [World.cell?, hb]
    have hlt : o + i < cs.size := by omega
    have hfr : w.frozen? ⟨b, o + i, none⟩ = false := by
      simp only [World.frozen?, hb]
      rcases hz with rfl | hz
      · simp
      · simp; omega
    have hst := run_store P w ⟨b, o + i, none⟩ V .plain (h1 V (by simp))
    rw [hcell, Array.getElem?_eq_getElem hlt] at hst
    simp only [hfr] at hst
    obtain ⟨w', r1, r2, r3, r4, r5, r6, r7⟩ := run_storeCells P b o L (w.setCell ⟨b, o + i, none⟩ V) (i + 1) (setCell_heap_same w b (o + i) V hb) (by simpa using by omega) (by simpa using hz) (fun x hx => h1 x (by simp [hx]))
    refine ⟨w', ?_, ?_, ?_, ?_, r5, r6, r7⟩
    · simp only [storeCells, add_none, Sem.run_bind, hst]; exact r1
    · rw [r2]; rfl
    · rw [r3]; simp
    · intro B hB; rw [r4 B hB]; exact setCell_heap_ne _ _ _ hB

end Go.Am

/- The abstract machine, part 6: each operation of the abstract machine is met by the model's. Conditions: none. -/
namespace Go.Am

def OpR (G : Nat → Option Nat) (ι : Gh) (tm : List AVal) (ρ : Operand → Value) : Prop := ∀ x a, copd G x = some a → VR ι (opd tm a) (ρ x)

def DefR (ι : Gh) (d : ADef) (D : Deferred) : Prop := ∃ A C, D = ⟨.fn d.f ⟨C⟩, ⟨A⟩⟩ ∧ VRL ι d.args A ∧ VRL ι d.cap C

def RSim (P : Program) (G : Nat → Option Nat) (ι : Gh) (h : Hp) (w : World) : ARes → Result Next → Prop
  | .val v h', R => ∃ ι' w' V, Rel G ι' h' w' ∧ Fr ι h w ι' h' w' ∧ VR ι' v V ∧ (R = .ok (.value V) w' ∨ (R = .ok .skip w' ∧ V = undef))
  | .call f args, R => ∃ A, VRL ι args A ∧ R = (callFunc f ⟨A⟩).run P w
  | .dfr d, R => ∃ D, DefR ι d D ∧ R = .ok (.defer D) w
  | .pan v, R => ∃ V, VR ι v V ∧ R = .halt (.panic V) w
  | .rcv, R => R = .ok .recover w

section
variable {P : Program} {G : Nat → Option Nat} {ι : Gh} {h : Hp} {w : World} {tm : List AVal} {ρ : Operand → Value}

/-! ### Types -/
theorem run_underlying' {t : TypeId} {d : TypeDesc} (e : P.underlying t = some d) (w : World) : (underlying t).run P w = .ok d w := by simp [underlying, e]
theorem run_typeInfo' {t : TypeId} {i : TypeInfo} (e : P.info? t = some i) (w : World) : (typeInfo t).run P w = .ok i w := by simp [typeInfo, e]
theorem szP_some {t : TypeId} {n : Nat} (e : szP P t = some n) : ∃ i, P.info? t = some i ∧ i.size = n := by
  unfold szP at e
  cases hi : P.info? t with
  | none => rw [hi] at e; cases e
  | some i => rw [hi] at e; exact ⟨i, rfl, by simpa using e⟩
theorem run_sizeOf' {t : TypeId} {n : Nat} (e : szP P t = some n) (w : World) : (sizeOf t).run P w = .ok n w := by
  obtain ⟨i, h1, h2⟩ := szP_some e
  simp [sizeOf, run_typeInfo' h1, h2]
theorem run_isAgg' {t : TypeId} {b : Bool} (e : aggP P t = some b) (w : World) : (isAgg t).run P w = .ok b w := by
  unfold aggP at e
  cases hu : P.underlying t with
  | none => rw [hu] at e; cases e
  | some d => rw [hu] at e; cases d <;> simp_all [isAgg, run_underlying' hu]

theorem cval1uok {V : Value} {a : AVal} (e : cval1 V = some a) (ι : Gh) : VR ι a V := by
  unfold cval1 at e
  split at e <;> cases e <;> simp [VR]
theorem cvals_ok : ∀ {L : List Value} {l : List AVal}, cvals L = some l → ∀ (ι : Gh), VRL ι l L
  | [], l, e, ι => by simp [cvals] at e; subst e; simp [VRL]
  | V :: L, l, e, ι => by
    simp only [cvals] at e
    split at e
    · next a r h1 h2 => cases e; exact VRL.cons_iff.2 ⟨V, L, rfl, cval1uok h1 ι, cvals_ok h2 ι⟩
    · cases e
theorem cval_ok {V : Value} {a : AVal} (e : cval V = some a) (ι : Gh) : VR ι a V := by
  unfold cval at e
  split at e
  · split at e
    · next h => cases e; simp only [VR]; exact ⟨_, rfl, cvals_ok h ι⟩
    · cases e
  · split at e
    · next h => cases e; simp only [VR]; exact ⟨_, rfl, cvals_ok h ι⟩
    · cases e
  · exact cval1uok e ι

theorem zeroP_some {t : TypeId} {z : List AVal} (e : zeroP P t = some z) : ∃ V, (∀ w, (zeroValue t).run P w = .ok V w) ∧ ∀ ι, VRL ι z V.cells.toList := by
  unfold zeroP at e
  cases hi : P.info? t with
  | none => simp [hi] at e
  | some i =>
    simp only [hi] at e
    cases hz : i.zero with
    | none => simp [hz] at e
    | some V =>
      simp only [hz] at e
      exact ⟨V, fun w => by simp [zeroValue, run_typeInfo' hi, hz], fun ι => cvals_ok e ι⟩

/-! ### Operands -/
theorem OpR.one (ho : OpR G ι tm ρ) {x : Operand} {a : AOpd} (e : copd G x = some a) : VR ι (opd tm a) (ρ x) := ho x a e
theorem OpR.list (ho : OpR G ι tm ρ) : ∀ {l : List Operand} {as : List AOpd}, copds G l = some as → VRL ι (opds tm as) (l.map ρ)
  | [], as, e => by simp [copds] at e; subst e; simp [opds, VRL]
  | x :: l, as, e => by
    simp only [copds] at e
    split at e
    · next a r h1 h2 => cases e; simp only [opds, List.map_cons]; exact VRL.cons_iff.2 ⟨_, _, rfl, ho.one h1, OpR.list ho h2⟩
    · cases e

theorem opd_eq (tm : List AVal) (n : Nat) : opd tm (.t n) = tm.getD n und := by
  simp only [opd, nth_eq]; cases h : tm[n]? <;> simp [h]

/-! ### Values by their shape -/
theorem VR.cells {v : AVal} {V : Value} (x : VR ι v V) : VRL ι (cellsOf v) V.cells.toList := by
  cases v with
  | agg l => simp only [VR] at x; obtain ⟨L, rfl, h2⟩ := x; simpa [cellsOf, Value.cells] using h2
  | sl g o n c =>
    cases c with
    | none =>
      have y := x
      simp only [VR] at x
      rcases x with ⟨i, h1, ⟨C, h2, h3, rfl⟩ | ⟨h2, h3, A, rfl⟩⟩
      · simp only [cellsOf, Value.cells]; exact VRL.cons_iff.2 ⟨_, [], rfl, y, by simp [VRL]⟩
      · simp only [cellsOf, Value.cells]; exact VRL.cons_iff.2 ⟨_, [], rfl, y, by simp [VRL]⟩
    | some c =>
      simp only [VR] at x
      rcases x with ⟨i, h1, h2, rfl⟩ | ⟨rfl, rfl, A, rfl⟩
      · simp only [cellsOf, Value.cells]; exact VRL.cons_iff.2 ⟨_, [], rfl, by simp only [VR]; exact .inl ⟨i, h1, h2, rfl⟩, rfl⟩
      · simp only [cellsOf, Value.cells]; exact VRL.cons_iff.2 ⟨_, [], rfl, by simp only [VR]; exact .inr (by simp), by simp [VRL]⟩
  | ptr g o => simp only [VR] at x; obtain ⟨i, h1, rfl⟩ := x; simp only [cellsOf, Value.cells]; exact VRL.cons_iff.2 ⟨_, [], rfl, by simp only [VR]; exact ⟨i, h1, rfl⟩, rfl⟩
  | map g => simp only [VR] at x; obtain ⟨i, h1, rfl⟩ := x; simp only [cellsOf, Value.cells]; exact VRL.cons_iff.2 ⟨_, [], rfl, by simp only [VR]; exact ⟨i, h1, rfl⟩, rfl⟩
  | fn f a c => simp only [VR] at x; obtain ⟨A, C, rfl, h1, h2⟩ := x; simp only [cellsOf, Value.cells]; exact VRL.cons_iff.2 ⟨_, [], rfl, by simp only [VR]; exact ⟨A, C, rfl, h1, h2⟩, rfl⟩
  | ifc t v => simp only [VR] at x; obtain ⟨W, rfl, h1⟩ := x; simp only [cellsOf, Value.cells]; exact VRL.cons_iff.2 ⟨_, [], rfl, by simp only [VR]; exact ⟨W, rfl, h1⟩, rfl⟩
  | tup l => simp only [VR] at x; obtain ⟨L, rfl, h1⟩ := x; simp only [cellsOf, Value.cells]; exact VRL.cons_iff.2 ⟨_, [], rfl, by simp only [VR]; exact ⟨L, rfl, h1⟩, rfl⟩
  | _ => simp only [VR] at x; subst x; simp only [cellsOf, Value.cells]; exact VRL.cons_iff.2 ⟨_, _, rfl, by simp [VR], by simp [VRL]⟩

theorem one_ok {v : AVal} {V : Value} (x : VR ι v V) (e : one v = true) : V.oneCell' = true := by
  cases v with
  | agg l => simp [one] at e
  | tup l => simp [one] at e
  | sl g o n c =>
    cases c with
    | none => simp only [VR] at x; rcases x with ⟨i, h1, ⟨C, h2, h3, rfl⟩ | ⟨h2, h3, A, rfl⟩⟩ <;> rfl
    | some c => simp only [VR] at x; rcases x with ⟨i, h1, h2, rfl⟩ | ⟨rfl, rfl, A, rfl⟩ <;> rfl
  | ptr g o => simp only [VR] at x; obtain ⟨i, h1, rfl⟩ := x; rfl
  | map g => simp only [VR] at x; obtain ⟨i, h1, rfl⟩ := x; rfl
  | fn f a c => simp only [VR] at x; obtain ⟨A, C, rfl, h1, h2⟩ := x; rfl
  | ifc t v => simp only [VR] at x; obtain ⟨W, rfl, h1⟩ := x; rfl
  | _ => simp only [VR] at x; subst x; rfl
theorem ones_ok : ∀ {l : List AVal} {L : List Value}, VRL ι l L → ones l = true → oneAll L
  | [], L, x, _ => by simp only [VRL] at x; subst x; intro V hV; cases hV
  | v :: l, L, x, e => by
    obtain ⟨V, L', rfl, h1, h2⟩ := VRL.cons_iff.1 x
    simp only [ones, Bool.and_eq_true] at e
    intro W hW
    rcases List.mem_cons.1 hW with rfl | hW
    · exact one_ok h1 e.1
    · exact ones_ok h2 e.2 W hW

/-! ### Reading objects -/
theorem readFrom_ok {t : Tree (List AVal)} {z : List AVal} {k : Nat} : ∀ (m o : Nat) {l : List AVal}, readFrom t z k m o = some l → l.length = m ∧ ∀ j, j < m → l[j]? = cellAt' t z k (o + j)
  | 0, o, l, e => by simp [readFrom] at e; subst e; exact ⟨rfl, fun j hj => by omega⟩
  | m + 1, o, l, e => by
    simp only [readFrom] at e
    split at e
    · next v hv =>
      split at e
      · next r hr =>
        cases e
        obtain ⟨h1, h2⟩ := readFrom_ok m (o + 1) hr
        refine ⟨by simp [h1], fun j hj => ?_⟩
        cases j with
        | zero => simpa using hv.symm
        | succ j => rw [List.getElem?_cons_succ, h2 j (by omega)]; congr 1; omega
      · cases e
    · cases e

theorem rd_ok {t : Tree (List AVal)} {z : List AVal} {k n o m : Nat} {ow : Bool} {l : List AVal} (hE : ElemsOK t z k) (e : rd (.cells t z k n ow) o m = some l) :
    o + m ≤ n * k ∧ l.length = m ∧ ∀ j, j < m → l[j]? = cellAt' t z k (o + j) := by
  simp only [rd] at e
  split at e
  · next hle =>
    have hle := Nat.le_of_ble_eq_true hle
    refine ⟨hle, ?_⟩
    split at e
    · next hc =>
      simp only [Bool.and_eq_true] at hc
      have hm := Nat.eq_of_beq_eq_true hc.1
      have ho := Nat.eq_of_beq_eq_true hc.2
      subst hm
      cases e
      refine ⟨hE.2 _, fun j hj => ?_⟩
      have hpos : 0 < m := by omega
      obtain ⟨q, rfl⟩ : ∃ q, o = m * q := ⟨o / m, by have := Nat.div_add_mod o m; rw [ho] at this; simpa using this.symm⟩
      simp only [cellAt', nth_eq, Nat.mul_add_div hpos, Nat.div_eq_of_lt hj, Nat.mul_add_mod, Nat.mod_eq_of_lt hj, Nat.add_zero]
      rw [Nat.mul_div_cancel_left _ hpos]
    · exact readFrom_ok m o e
  · cases e
end
end Go.Am
end
