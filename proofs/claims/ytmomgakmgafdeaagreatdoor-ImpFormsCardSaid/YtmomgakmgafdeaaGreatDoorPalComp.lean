/-
  From the model's code to the small code of PalIR: a function that either gives the code or nothing.
  What a type is comes from a table 'T' (its rows are what 'tiOf' gives over the program). Which temporaries stay in the frame ('ps') and in which order an open region is reckoned ('od') is handed in; the order is looked through.
-/
import GoSem.Core.Program
import GoSem.Core.Code
import GoSem.Core.Region
import GoSem.Core.Layout
import GoSem.Op.Equal
import Derived.Test.YtmomgakmgafdeaaGreatDoorPalIR
namespace Go.Pal

/-- What a type is. -/
inductive TK where
  | struct | array (n : Nat) | slice | string | int (k : IntKind) | bool | ptr | other
  deriving DecidableEq

structure TI where
  size : Nat
  by_ : Nat
  agg : Bool
  z : Option AV
  fs : List (Nat × Nat × Bool)
  elem : Nat
  k : TK
  plain : Option (List Nat)

mutual
/-- A value as an abstract one: of a constant, or of a zero value. -/
def absV : Value → AV
  | .bool b => .bool b
  | .int k n => .int k n
  | .string s => .str (s.data.toList.map (·.toNat))
  | .pointer none => .nilptr
  | .slice none 0 0 => .nilsl
  | .agg ⟨cs⟩ => .agg (absL cs)
  | .func (.func f) ⟨[]⟩ ⟨[]⟩ => .fn f []
  | _ => .undef
def absL : List Value → List AV
  | [] => []
  | v :: r => absV v :: absL r
end

def aggT (p : Program) (t : TypeId) : Bool := match p.underlying t with | some (.struct _) => true | some (.array ..) => true | _ => false

mutual
/-- Where values of a type compare cell by cell: the cells' kinds (0: truth, 1: number, 2: text). -/
def sigT (p : Program) : Nat → TypeId → Option (List Nat)
  | 0, _ => none
  | d + 1, t => match p.underlying t with
    | some .bool => bif Nat.beq (p.cellsOf t) 1 then some [0] else none
    | some (.int _) => bif Nat.beq (p.cellsOf t) 1 then some [1] else none
    | some .string => bif Nat.beq (p.cellsOf t) 1 then some [2] else none
    | some (.struct fs) => bif p.stoodInHeld t then none else (match sigF p d fs.toList 0 with | some l => bif Nat.beq (p.cellsOf t) l.length then some l else none | none => none)
    | some (.array n e) => match sigT p d e with | some l => bif Nat.beq (p.cellsOf e) l.length && Nat.beq (p.cellsOf t) (n * l.length) then some ((List.replicate n l).flatten) else none | none => none
    | _ => none
/-- The fields lie one behind the other. -/
def sigF (p : Program) : Nat → List Field → Nat → Option (List Nat)
  | 0, _, _ => none
  | _ + 1, [], _ => some []
  | d + 1, f :: r, o => match sigT p d f.type with
    | some l => bif f.name != "_" && Nat.beq f.offset o && Nat.beq (p.cellsOf f.type) l.length then (match sigF p d r (o + l.length) with | some q => some (l ++ q) | none => none) else none
    | none => none
end

/-- Is each field's type one that is known? -/
def fieldsOk (p : Program) : TypeDesc → Bool
  | .struct fs => fs.toList.all fun f => (p.underlying f.type).isSome
  | _ => true

def tiOf (p : Program) (t : TypeId) : Option TI :=
  match p.info? t, p.underlying t with
  | some i, some u => bif fieldsOk p u then some {
      size := i.size, by_ := i.bytes, agg := aggT p t, z := i.zero.map absV,
      fs := (match u with | .struct fs => fs.toList.map fun f => (f.offset, p.cellsOf f.type, aggT p f.type) | _ => []),
      elem := (match u with | .slice e => e | .array _ e => e | .pointer e => e | _ => 0),
      k := (match u with | .struct _ => .struct | .array n _ => .array n | .slice _ => .slice | .string => .string | .int k => .int k | .bool => .bool | .pointer _ => .ptr | _ => .other),
      plain := bif p.eqGuardType p.depth t then none else sigT p 30 t } else none
  | _, _ => none

abbrev TT := Nat → Option TI
/-- Where a temporary's value is: it is the n-th value of this region (from 0), or that operand. -/
inductive E where
  | abs (n : Nat)
  | al (x : X)

structure Env where
  l : List (Nat × E)
  cnt : Nat
  nt : Nat

def look2 {α : Type} : List (Nat × α) → Nat → Option α
  | [], _ => none
  | (k, a) :: r, n => bif Nat.beq k n then some a else look2 r n

abbrev PS := List (Nat × P)

def toX (cnt : Nat) : E → X
  | .abs n => .l (cnt - 1 - n)
  | .al x => x

def cTmp (ps : PS) (v : Env) (t : Nat) : Option E :=
  match look2 v.l t with
  | some e => some e
  | none => match look2 ps t with
    | some p => some (.al (.t p))
    | none => none

def one1 : AV → Bool
  | .undef => false
  | .agg _ => false
  | .tup _ => false
  | _ => true
def allOk : List AV → Bool
  | [] => true
  | v :: r => one1 v && allOk r
def okV : AV → Bool
  | .undef => false
  | .agg l => allOk l
  | .tup _ => false
  | _ => true

def cE (ps : PS) (v : Env) : Operand → Option E
  | .tmp t => cTmp ps v t
  | .const c => bif okV (absV c) then some (.al (.c (absV c))) else none
  | .func f => some (.al (.c (.fn f [])))
  | .global _ => none

def cX (ps : PS) (v : Env) (x : Operand) : Option X := (cE ps v x).map (toX v.cnt)
def cXo (ps : PS) (v : Env) : Option Operand → Option (Option X)
  | none => some none
  | some x => (cX ps v x).map some
def cXs (ps : PS) (v : Env) : List Operand → Option (List X)
  | [] => some []
  | x :: r => match cX ps v x, cXs ps v r with | some a, some b => some (a :: b) | _, _ => none

def zcells (z : Option AV) : List AV := match z with
  | some (.agg l) => l
  | some v => [v]
  | none => []

def cOp : BinOp → Option B2
  | .add => some .add | .sub => some .sub | .mul => some .mul | .quo => some .quo | .rem => some .rem
  | .and => some .and | .or => some .or | .xor => some .xor | .shl => some .shl | .shr => some .shr
  | .eql => some .eq | .neq => some .ne | .lss => some .lt | .leq => some .le | .gtr => some .gt | .geq => some .ge
  | .andNot => none

def neOf : BinOp → Option Bool
  | .eql => some false
  | .neq => some true
  | _ => none

def cParts (ps : PS) (v : Env) (place : Nat → Option (Nat × Nat)) : List (Nat × Operand) → Option (List (Nat × Nat × X))
  | [] => some []
  | (i, x) :: r => match place i, cX ps v x, cParts ps v place r with
    | some (o, n), some a, some b => some ((o, n, a) :: b)
    | _, _, _ => none

def x1 (ps : PS) (v : Env) (x : Operand) (f : X → I) : Option I := (cX ps v x).map f
def x2 (ps : PS) (v : Env) (x y : Operand) (f : X → X → I) : Option I := match cX ps v x, cX ps v y with | some a, some b => some (f a b) | _, _ => none
def x3 (ps : PS) (v : Env) (x y z : Operand) (f : X → X → X → I) : Option I := match cX ps v x, cX ps v y, cX ps v z with | some a, some b, some c => some (f a b c) | _, _, _ => none

/-- An element's type, its cells fit for a row. -/
def elemT (T : TT) (t : Nat) : Option TI := match T t with
  | some ti => match ti.k with
    | .slice => match T ti.elem with
      | some e => bif Nat.blt 0 e.size && Nat.blt 0 e.by_ && Nat.ble e.by_ 4096 && Nat.beq (zcells e.z).length e.size && e.z.isSome && allOk (zcells e.z) then some e else none
      | none => none
    | _ => none
  | none => none

def cIns (T : TT) (ps : PS) (v : Env) : Op → Option I
  | .move x => x1 ps v x .mov
  | .assign x => x1 ps v x .mov
  | .pick c a b => x3 ps v c a b .pick
  | .alloc t => match T t with
    | some ti => match ti.z with | some z => some (.box (.c z)) | none => none
    | none => none
  | .box _ x => x1 ps v x .box
  | .build t parts => match T t with
    | some ti => match ti.k, ti.z with
      | .struct, some z => (cParts ps v (fun i => (ti.fs[i]?).map fun f => (f.1, f.2.1)) parts.toList).map (.build (zcells (some z)))
      | .array _, some z => match T ti.elem with
        | some e => (cParts ps v (fun i => some (i * e.size, e.size)) parts.toList).map (.build (zcells (some z)))
        | none => none
      | _, _ => none
    | none => none
  | .buildSlice t n parts => match elemT T t with
    | some e => bif Nat.ble (n * e.size) 65536 then (cParts ps v (fun i => some (i * e.size, e.size)) parts.toList).map (.mks n e.size (zcells e.z)) else none
    | none => none
  | .load t a => match T t with
    | some ti => bif ti.agg || Nat.beq ti.size 1 then x1 ps v a (.load ti.size ti.agg) else none
    | none => none
  | .store t a x => match T t with
    | some ti => x2 ps v a x (.store ti.size)
    | none => none
  | .nilCheck x => x1 ps v x .nilc
  | .binOp op t x y _ => match cOp op, T t with
    | some o, some ti => match ti.k with
      | .int _ => x2 ps v x y (.bin o)
      | .string => x2 ps v x y (.bin o)
      | _ => match neOf op with
        | none => none
        | some ne => match ti.k with
          | .bool => x2 ps v x y (.eqb ne)
          | .slice => x2 ps v x y (.eqs ne)
          | .ptr => x2 ps v x y (.eqp ne)
          | .struct => match ti.plain with | some sg => x2 ps v x y (.eqa sg ne) | none => none
          | .array _ => match ti.plain with | some sg => x2 ps v x y (.eqa sg ne) | none => none
          | _ => none
    | _, _ => none
  | .unOp .not _ x => x1 ps v x .not
  | .convert s d x => match T s, T d with
    | some a, some b => match a.k, b.k with
      | .int _, .int k => x1 ps v x (.conv k)
      | .string, .string => x1 ps v x (.slc 0 · none none none)
      | .string, .slice => match T b.elem with
        | some e => match e.k with | .int .u8 => x1 ps v x .s2b | _ => none
        | none => none
      | .slice, .string => match T a.elem with
        | some e => match e.k with | .int .u8 => x1 ps v x .b2s | _ => none
        | none => none
      | _, _ => none
    | _, _ => none
  | .fieldAddr t x f => match T t with
    | some ti => match ti.k, ti.fs[f]? with
      | .struct, some g => bif Nat.blt 0 g.2.1 then x1 ps v x (.fa g.1) else none
      | _, _ => none
    | none => none
  | .field t x f => match T t with
    | some ti => match ti.k, ti.fs[f]? with
      | .struct, some g => bif g.2.2 || Nat.beq g.2.1 1 then x1 ps v x (.fld g.1 g.2.1 g.2.2) else none
      | _, _ => none
    | none => none
  | .indexAddr t x i => match T t with
    | some ti => match ti.k, T ti.elem with
      | .slice, some e => x2 ps v x i (.ia e.size)
      | .array n, some e => x2 ps v x i (.iap n e.size)
      | _, _ => none
    | none => none
  | .index t x i => match T t with
    | some ti => match ti.k with
      | .string => x2 ps v x i .idx
      | .array n => match T ti.elem with
        | some e => bif e.agg || Nat.beq e.size 1 then x2 ps v x i (.idxa n e.size e.agg) else none
        | none => none
      | _ => none
    | none => none
  | .slice t x lo hi mx => match T t with
    | some ti => match cX ps v x, cXo ps v lo, cXo ps v hi, cXo ps v mx with
      | some a, some l, some h, some m => match ti.k with
        | .string => some (.slc 0 a l h m)
        | .slice => match T ti.elem with | some e => bif Nat.blt 0 e.size then some (.slc e.size a l h m) else none | none => none
        | _ => none
      | _, _, _, _ => none
    | none => none
  | .makeSlice t l c => match elemT T t with
    | some e => x2 ps v l c (.mksl e.size e.by_ (zcells e.z))
    | none => none
  | .makeFunc (.func f) ⟨[]⟩ cs => (cXs ps v cs.toList).map (.mkf f)
  | .extract x i => x1 ps v x (.ext · i)
  | .call c => match c.callee, c.args.toList with
    | .value f, l => match cX ps v f, cXs ps v l with | some a, some b => some (.call a b) | _, _ => none
    | .builtin .len, [x] => match c.argTypes[0]? with
      | some t => match T t with
        | some ti => match ti.k with
          | .string => x1 ps v x .lens
          | .slice => x1 ps v x .len
          | .array n => some (.mov (.c (.int .i64 (.ofNat n))))
          | _ => none
        | none => none
      | none => none
    | .builtin .cap, [x] => match c.argTypes[0]? with
      | some t => match T t with
        | some ti => match ti.k with
          | .slice => x1 ps v x .cap
          | _ => none
        | none => none
      | none => none
    | .builtin .append, [a, b] => match c.argTypes[0]? with
      | some t => match elemT T t with
        | some e => match c.argTypes[1]? with
          | some u => match T u with
            | some ui => match ui.k with
              | .int _ => x2 ps v a b (.appz e.size (zcells e.z))
              | .slice => x2 ps v a b (.app e.size)
              | _ => none
            | none => none
          | none => none
        | none => none
      | none => none
    | .builtin .copy, [a, b] => match c.argTypes[0]? with
      | some t => match elemT T t with
        | some e => x2 ps v a b (.cpy e.size)
        | none => none
      | none => none
    | .builtin .clear, [a] => match c.argTypes[0]? with
      | some t => match elemT T t with
        | some e => x1 ps v a (.clr e.size (zcells e.z))
        | none => none
      | none => none
    | .builtin .min, [a, b] => x2 ps v a b .mn
    | .builtin .max, [a, b] => x2 ps v a b .mx
    | _, _ => none
  | _ => none

/-- Does an operation move a value, whatever? -/
def isMove (o : Oper) : Option Operand := match o.guard, o.op with
  | none, .move x => some x
  | none, .assign x => some x
  | _, _ => none

/-- One operation more: its instruction, if it is more than a move; where its value is. -/
def cOper (T : TT) (ps : PS) (ops : Array Oper) (v : Env) (o : Oper) : Option (Option O × Env) :=
  match isMove o, o.dst with
  | some x, some d => bif Nat.blt d v.nt then (match cE ps v x with
    | some e => some (none, ⟨(d, e) :: v.l, v.cnt, v.nt⟩)
    | none => none) else none
  | _, _ =>
    let i := (cIns T ps v o.op).getD .bad
    let v' : Env := ⟨(match o.dst with | some d => (d, .abs v.cnt) :: v.l | none => v.l), v.cnt + 1, v.nt⟩
    bif (match o.dst with | some d => Nat.blt d v.nt | none => true) then match o.guard with
    | none => some (some ⟨none, i⟩, v')
    | some (j, w) => (match (ops[j]?).bind (·.dst) with
      | some g => match cTmp ps v g with
        | some e => some (some ⟨some (toX v.cnt e, w), i⟩, v')
        | none => none
      | none => none) else none

def cOps (T : TT) (ps : PS) (ops : Array Oper) : List Oper → Env → Option (List O × Env)
  | [], v => some ([], v)
  | o :: r, v => match cOper T ps ops v o with
    | none => none
    | some (x, v') => match cOps T ps ops r v' with
      | none => none
      | some (l, v'') => match x with
        | none => some (l, v'')
        | some a => some (a :: l, v'')

def cUpd (ps0 : PS) (v : Env) : PS → List (P × X)
  | [] => []
  | (t, p) :: r => match look2 v.l t with
    | some e => (p, toX v.cnt e) :: cUpd ps0 v r
    | none => cUpd ps0 v r

/-! ### Open regions -/
/-- Which operations (a bit each) must stand ahead of each one, in whatever mode. -/
def sure (e : Edge) : Bool := match e.ground with | .textOnly _ => false | .gcOnly _ => false | _ => true
def ancOne (acc : List Nat) (o : Oper) : Nat := o.after.toList.foldl (fun s e => bif sure e then s ||| 2 ^ e.on ||| acc.getD e.on 0 else s) 0
def ancs (ops : List Oper) : List Nat := ops.foldl (fun acc o => acc ++ [ancOne acc o]) []

def isEff (o : Oper) : Bool := match o.op with
  | .store .. => true
  | .call c => match c.callee with
    | .builtin .len => false | .builtin .cap => false | .builtin .min => false | .builtin .max => false
    | _ => true
  | _ => false

def tmpsOf (o : Oper) : List Nat := o.op.operands.toList.filterMap fun | .tmp t => some t | _ => none
/-- The temporaries that an operation looks into, its guard's too. -/
def usesOf (ops : Array Oper) (o : Oper) : List Nat := tmpsOf o ++ (match o.guard with | some (j, _) => (match (ops[j]?).bind (·.dst) with | some g => [g] | none => []) | none => [])

def subBit (a b : Nat) : Bool := Nat.beq (a &&& b) a

/-- Is 'l' a row of all operations in which each stands behind those that must be ahead of it; ahead of each effect are only such as must be; each temporary has one writer, and who looks into it is bound to it? -/
def goodWalk (ops : Array Oper) (an : List Nat) (done : Nat) : List Nat → Bool
  | [] => (List.range ops.size).all fun i => Nat.testBit done i
  | i :: r => match ops[i]? with
    | none => false
    | some o => !Nat.testBit done i && subBit (an.getD i 0) done && (!isEff o || subBit done (an.getD i 0)) && goodWalk ops an (done ||| 2 ^ i) r
def bound (ops : Array Oper) (an : List Nat) (i j d : Nat) : Bool := Nat.beq i j || (match ops[j]? with
  | none => false
  | some oj => oj.dst != some d && (!(usesOf ops oj).contains d || Nat.testBit (an.getD j 0) i || Nat.testBit (an.getD i 0) j))
def goodOrder (ops : Array Oper) (an : List Nat) (l : List Nat) : Bool :=
  goodWalk ops an 0 l &&
  (List.range ops.size).all fun i => match ops[i]? with
    | none => false
    | some oi => match oi.dst with
      | none => true
      | some d => (List.range ops.size).all fun j => bound ops an i j d

/-- Which effects (by their place among the instructions) stand ahead of an operation without being bound to. 'es': the effects so far: number, place. -/
def freeEs (an : Nat) : List (Nat × Nat) → List Nat
  | [] => []
  | (i, k) :: r => bif Nat.testBit an i then freeEs an r else k :: freeEs an r

def cDrw (T : TT) (ps : PS) (ops : Array Oper) (an : List Nat) : List Nat → List (Nat × Nat) → Env → Option (List (O × List Nat) × Env)
  | [], _, v => some ([], v)
  | j :: r, es, v => match ops[j]? with
    | none => none
    | some o => match cOper T ps ops v o with
      | none => none
      | some (x, v') => match x with
        | none => cDrw T ps ops an r es v'
        | some a => match cDrw T ps ops an r (bif isEff o then (j, v.cnt) :: es else es) v' with
          | none => none
          | some (l, v'') => some ((a, freeEs (an.getD j 0) es) :: l, v'')

def cC (T : TT) (ps : PS) (od : List (Nat × List Nat)) (nt : Nat) : Code → Option C
  | .skip => some .skip
  | .ret => some .ret
  | .exit n => some (.exit n)
  | .seq a b => match cC T ps od nt a, cC T ps od nt b with | some x, some y => some (.seq x y) | _, _ => none
  | .cond c a b => match cX ps ⟨[], 0, nt⟩ c, cC T ps od nt a, cC T ps od nt b with | some c, some x, some y => some (.cond c x y) | _, _, _ => none
  | .block n b => (cC T ps od nt b).map (.block n)
  | .loop b => (cC T ps od nt b).map .loop
  | .region _ ops false => match cOps T ps ops ops.toList ⟨[], 0, nt⟩ with | some (l, v) => some (.reg l (cUpd ps v ps)) | none => none
  | .region id ops true => match look2 od id with
    | some l => let an := ancs ops.toList
      bif goodOrder ops an l then (match cDrw T ps ops an l [] ⟨[], 0, nt⟩ with | some (q, v) => some (.drw q (cUpd ps v ps)) | none => none) else none
    | none => none
  | _ => some (.reg [⟨none, .bad⟩] [])

/-- All places of the frame: of one length, each once. -/
def plen : P → Nat
  | .e => 0
  | .o p => plen p + 1
  | .i p => plen p + 1
def okPs (D : Nat) : PS → Bool
  | [] => true
  | (t, p) :: r => Nat.beq (plen p) D && r.all (fun q => !Nat.beq q.1 t && decide (q.2 ≠ p)) && okPs D r
def full : Nat → Tr
  | 0 => .lf .undef
  | d + 1 => .nd (full d) (full d)

def cRes (T : TT) (ps : PS) : List ResultVar → Option (List (P × Option (Nat × Bool)))
  | [] => some []
  | .tmp t :: r => match look2 ps t, cRes T ps r with | some p, some l => some ((p, none) :: l) | _, _ => none
  | .cell a t :: r => match look2 ps a, T t, cRes T ps r with
    | some p, some ti, some l => bif ti.agg || Nat.beq ti.size 1 then some ((p, some (ti.size, ti.agg)) :: l) else none
    | _, _, _ => none

structure Aid where
  d : Nat
  ps : PS
  od : List (Nat × List Nat)

def cF (T : TT) (a : Aid) (f : Func) : Option FN :=
  match f.body with
  | none => none
  | some c =>
    bif okPs a.d a.ps && f.name != "runtime.NumGoroutine" then
      match cC T a.ps a.od f.ntmps c, cRes T a.ps f.results.toList with
      | some c, some r => some { ini := full a.d, par := (List.range (f.params.size + f.nfree)).map (look2 a.ps), code := c, res := r }
      | _, _ => none
    else none
end Go.Pal
