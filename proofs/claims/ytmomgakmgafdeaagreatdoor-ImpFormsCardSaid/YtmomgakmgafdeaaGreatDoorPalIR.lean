/-
  A small intermediate code, and a deterministic evaluator of it, written with explicit recursors so that the kernel runs it fast.
  Own work. What it has to do with the model stands in the texts behind this one.
-/
import GoSem.Core.View
namespace Go.Pal

/-- Values: numbers, texts as lists of bytes, places (object, cell), slices of a known capacity ('sl') or of all the room behind them ('so', with the cells of an element), functions with what they captured. -/
inductive AV where
  | bool (b : Bool)
  | int (k : IntKind) (n : Int)
  | str (l : List Nat)
  | ptr (id off : Nat)
  | nilptr
  | sl (id off len cap : Nat)
  | so (id off len esz : Nat)
  | nilsl
  | fn (f : Nat) (cs : List AV)
  | agg (l : List AV)
  | tup (l : List AV)
  | undef
  deriving Inhabited

/-- A place in a frame. -/
inductive P where
  | e
  | o (p : P)
  | i (p : P)
  deriving DecidableEq

/-- A frame. -/
inductive Tr where
  | lf (v : AV)
  | nd (l r : Tr)

/-- An operand: a place in the frame, a value of this region (the last one is 0), a constant. -/
inductive X where
  | t (p : P)
  | l (n : Nat)
  | c (v : AV)
  deriving Inhabited

inductive B2 where
  | add | sub | mul | quo | rem | and | or | xor | shl | shr | eq | ne | lt | le | gt | ge

inductive I where
  | mov (x : X)
  | pick (c a b : X)
  | box (x : X)
  | build (z : List AV) (ps : List (Nat × Nat × X))
  | mks (n esz : Nat) (z : List AV) (ps : List (Nat × Nat × X))
  | load (n : Nat) (g : Bool) (x : X)
  | store (n : Nat) (a x : X)
  | nilc (x : X)
  | bin (op : B2) (a b : X)
  | not (x : X)
  | conv (k : IntKind) (x : X)
  | s2b (x : X)
  | b2s (x : X)
  | fa (o : Nat) (x : X)
  | fld (o n : Nat) (g : Bool) (x : X)
  | ia (esz : Nat) (x i : X)
  | iap (n esz : Nat) (x i : X)
  | idx (x i : X)
  | idxa (n esz : Nat) (g : Bool) (x i : X)
  | slc (esz : Nat) (x : X) (lo hi mx : Option X)
  | mksl (esz by_ : Nat) (z : List AV) (l c : X)
  | mkf (f : Nat) (cs : List X)
  | ext (x : X) (i : Nat)
  | call (f : X) (args : List X)
  | len (x : X)
  | lens (x : X)
  | cap (x : X)
  | app (esz : Nat) (a b : X)
  | appz (esz : Nat) (z : List AV) (a b : X)
  | cpy (esz : Nat) (a b : X)
  | mn (a b : X)
  | mx (a b : X)
  | clr (esz : Nat) (z : List AV) (x : X)
  | eqa (sg : List Nat) (ne : Bool) (a b : X)
  | eqb (ne : Bool) (a b : X)
  | eqs (ne : Bool) (a b : X)
  | eqp (ne : Bool) (a b : X)
  | bad
  deriving Inhabited

/-- An operation under its guard. -/
structure O where
  g : Option (X × Bool)
  i : I

/-- Code. A region: its operations, and what the frame holds behind it. 'drw': a region whose order is open: behind each operation, which ones ahead of it (by place) may as well come behind it and write. -/
inductive C where
  | skip
  | ret
  | exit (n : Nat)
  | seq (a b : C)
  | cond (c : X) (a b : C)
  | block (n : Nat) (b : C)
  | loop (b : C)
  | reg (l : List O) (u : List (P × X))
  | drw (l : List (O × List Nat)) (u : List (P × X))

/-- A function: its empty frame, where the arguments go, its code, its results. -/
structure FN where
  ini : Tr
  par : List (Option P)
  code : C
  res : List (P × Option (Nat × Bool))

abbrev Heap := List (Nat × List AV)

/-- The heap, the next object's number, which objects of the callers' have been written. -/
structure St where
  heap : Heap
  nxt : Nat
  wd : List Nat

/-! ### Lists, by their recursors -/
noncomputable def nth (l : List AV) : Nat → AV := List.rec (motive := fun _ => Nat → AV) (fun _ => .undef) (fun x _ ih n => Nat.casesOn n x ih) l
noncomputable def get (h : Heap) (id : Nat) : Option (List AV) := List.rec (motive := fun _ => Option (List AV)) none (fun p _ ih => bif Nat.beq p.1 id then some p.2 else ih) h
noncomputable def put (h : Heap) (id : Nat) (c : List AV) : Heap := List.rec (motive := fun _ => Heap) [] (fun p r ih => bif Nat.beq p.1 id then (id, c) :: r else p :: ih) h
noncomputable def del (h : Heap) (id : Nat) : Heap := List.rec (motive := fun _ => Heap) [] (fun p r ih => bif Nat.beq p.1 id then r else p :: ih) h
noncomputable def dropA (l : List AV) : Nat → List AV := List.rec (motive := fun _ => Nat → List AV) (fun _ => []) (fun x r ih n => Nat.casesOn n (x :: r) ih) l
noncomputable def exactly (l : List AV) : Nat → Option (List AV) := List.rec (motive := fun _ => Nat → Option (List AV)) (fun n => Nat.casesOn n (some []) (fun _ => none)) (fun x _ ih n => Nat.casesOn n (some []) (fun m => Option.casesOn (ih m) none (fun r => some (x :: r)))) l
/-- Just n cells from off on. -/
noncomputable def cellsAt (c : List AV) (off n : Nat) : Option (List AV) := exactly (dropA c off) n
noncomputable def ovr (vs : List AV) : List AV → Option (List AV) := List.rec (motive := fun _ => List AV → Option (List AV)) (fun l => some l) (fun v _ ih l => List.casesOn l none (fun _ r => Option.casesOn (ih r) none (fun r' => some (v :: r')))) vs
/-- Cells written from a place on; none: they do not fit. -/
noncomputable def setC (l : List AV) (vs : List AV) : Nat → Option (List AV) := List.rec (motive := fun _ => Nat → Option (List AV)) (fun n => Nat.casesOn n (ovr vs []) (fun _ => none)) (fun x r ih n => Nat.casesOn n (ovr vs (x :: r)) (fun m => Option.casesOn (ih m) none (fun r' => some (x :: r')))) l
noncomputable def lenA (l : List AV) : Nat := List.rec (motive := fun _ => Nat) 0 (fun _ _ n => Nat.succ n) l
noncomputable def app (a b : List AV) : List AV := List.rec (motive := fun _ => List AV) b (fun x _ ih => x :: ih) a
noncomputable def lenN (l : List Nat) : Nat := List.rec (motive := fun _ => Nat) 0 (fun _ _ n => Nat.succ n) l
noncomputable def appN (a b : List Nat) : List Nat := List.rec (motive := fun _ => List Nat) b (fun x _ ih => x :: ih) a
noncomputable def dropN (l : List Nat) : Nat → List Nat := List.rec (motive := fun _ => Nat → List Nat) (fun _ => []) (fun x r ih n => Nat.casesOn n (x :: r) ih) l
noncomputable def takeN (l : List Nat) : Nat → List Nat := List.rec (motive := fun _ => Nat → List Nat) (fun _ => []) (fun x _ ih n => Nat.casesOn n [] (fun m => x :: ih m)) l
noncomputable def nthN (l : List Nat) : Nat → Option Nat := List.rec (motive := fun _ => Nat → Option Nat) (fun _ => none) (fun x _ ih n => Nat.casesOn n (some x) ih) l
noncomputable def rep (n : Nat) (z : List AV) : List AV := Nat.rec (motive := fun _ => List AV) [] (fun _ ih => app z ih) n
noncomputable def beqN (a : List Nat) : List Nat → Bool := List.rec (motive := fun _ => List Nat → Bool) (fun b => List.casesOn b true (fun _ _ => false)) (fun x _ ih b => List.casesOn b false (fun y r => bif Nat.beq x y then ih r else false)) a
noncomputable def ltN (a : List Nat) : List Nat → Bool := List.rec (motive := fun _ => List Nat → Bool) (fun b => List.casesOn b false (fun _ _ => true)) (fun x _ ih b => List.casesOn b false (fun y r => bif Nat.blt x y then true else bif Nat.beq x y then ih r else false)) a
noncomputable def memN (x : Nat) (l : List Nat) : Bool := List.rec (motive := fun _ => Bool) false (fun y _ ih => bif Nat.beq x y then true else ih) l

/-! ### Numbers -/
def wrn (k : IntKind) (m : Nat) : Int := match k with
  | .i64 => bif Nat.blt m 9223372036854775808 then .ofNat m else IntKind.wrap .i64 (.ofNat m)
  | .u8 => .ofNat (Nat.mod m 256)
  | .u32 => .ofNat (Nat.mod m 4294967296)
  | .u64 => .ofNat (Nat.mod m 18446744073709551616)
  | k => IntKind.wrap k (.ofNat m)
def wrm (k : IntKind) (m : Nat) : Int := match k with
  | .i64 => bif Nat.blt m 9223372036854775808 then .negSucc m else IntKind.wrap .i64 (.negSucc m)
  | k => IntKind.wrap k (.negSucc m)
def wr (k : IntKind) (n : Int) : Int := match n with
  | .ofNat m => wrn k m
  | .negSucc m => wrm k m
def eqI : Int → Int → Bool
  | .ofNat a, .ofNat b => Nat.beq a b
  | .negSucc a, .negSucc b => Nat.beq a b
  | _, _ => false
def ltI : Int → Int → Bool
  | .ofNat a, .ofNat b => Nat.blt a b
  | .negSucc _, .ofNat _ => true
  | .ofNat _, .negSucc _ => false
  | .negSucc a, .negSucc b => Nat.blt b a
def kno : IntKind → Nat
  | .i8 => 0 | .i16 => 1 | .i32 => 2 | .i64 => 3 | .u8 => 4 | .u16 => 5 | .u32 => 6 | .u64 => 7
def p2k : IntKind → Nat
  | .i8 => 256 | .i16 => 65536 | .i32 => 4294967296 | .i64 => 18446744073709551616 | .u8 => 256 | .u16 => 65536 | .u32 => 4294967296 | .u64 => 18446744073709551616
def bitk : IntKind → Nat
  | .i8 => 8 | .i16 => 16 | .i32 => 32 | .i64 => 64 | .u8 => 8 | .u16 => 16 | .u32 => 32 | .u64 => 64

/-! ### Operations -/
/-- What an operation comes to: nothing; a value; a value, and objects that it wrote; a call. -/
inductive R where
  | no
  | val (v : AV) (s : St)
  | eff (v : AV) (s : St) (w : List Nat)
  | call (f : Nat) (args : List AV) (s : St)

noncomputable def look (p : P) : Tr → AV := P.rec (motive := fun _ => Tr → AV) (fun t => Tr.casesOn t (fun v => v) (fun _ _ => .undef)) (fun _ ih t => Tr.casesOn t (fun _ => .undef) (fun l _ => ih l)) (fun _ ih t => Tr.casesOn t (fun _ => .undef) (fun _ r => ih r)) p
noncomputable def updT (v : AV) (p : P) : Tr → Tr := P.rec (motive := fun _ => Tr → Tr) (fun _ => .lf v) (fun _ ih t => Tr.casesOn t (fun u => .lf u) (fun l r => .nd (ih l) r)) (fun _ ih t => Tr.casesOn t (fun u => .lf u) (fun l r => .nd l (ih r))) p
noncomputable def rd (x : X) : Tr → List AV → AV := X.casesOn (motive := fun _ => Tr → List AV → AV) x (fun p fr _ => look p fr) (fun n _ L => nth L n) (fun v _ _ => v)
noncomputable def rds (l : List X) (fr : Tr) (L : List AV) : List AV := List.rec (motive := fun _ => List AV) [] (fun x _ ih => rd x fr L :: ih) l
noncomputable def orNo {α : Type} (o : Option α) (f : α → R) : R := Option.casesOn o .no f
noncomputable def one? (v : AV) : Bool := AV.casesOn (motive_1 := fun _ => Bool) v (fun _ => true) (fun _ _ => true) (fun _ => true) (fun _ _ => true) true (fun _ _ _ _ => true) (fun _ _ _ _ => true) true (fun _ _ => true) (fun _ => false) (fun _ => false) false
noncomputable def allOne (l : List AV) : Bool := List.rec (motive := fun _ => Bool) true (fun v _ ih => bif one? v then ih else false) l
/-- A value's cells. -/
noncomputable def cellsV (v : AV) : Option (List AV) := AV.casesOn (motive_1 := fun _ => Option (List AV)) v (fun b => some [.bool b]) (fun k n => some [.int k n]) (fun l => some [.str l]) (fun a b => some [.ptr a b]) (some [.nilptr]) (fun a b c d => some [.sl a b c d]) (fun a b c d => some [.so a b c d]) (some [.nilsl]) (fun a b => some [.fn a b]) (fun l => some l) (fun _ => none) none
noncomputable def mkV (g : Bool) (l : List AV) (s : St) : R := Bool.casesOn g (List.casesOn l .no (fun v r => List.casesOn r (.val v s) (fun _ _ => .no))) (.val (.agg l) s)
noncomputable def onNat (v : AV) (f : Nat → R) : R := match v with | .int _ (.ofNat n) => f n | _ => .no
/-- A number, reckoned now. -/
noncomputable def forceN (n : Nat) (f : Nat → R) : R := Nat.casesOn n (f 0) (fun m => f (Nat.succ m))
noncomputable def vInt (k : IntKind) (n : Int) (s : St) : R := Int.casesOn n (fun m => forceN m (fun m => .val (.int k (.ofNat m)) s)) (fun m => forceN m (fun m => .val (.int k (.negSucc m)) s))
noncomputable def vBool (b : Bool) (s : St) : R := Bool.casesOn b (.val (.bool false) s) (.val (.bool true) s)

noncomputable def onNats (a b : Int) (f : Nat → Nat → R) : R := match a, b with | .ofNat m, .ofNat n => f m n | _, _ => .no
noncomputable def binII (op : B2) : IntKind → Int → Int → St → R := B2.casesOn op
  (fun k a b s => vInt k (wr k (Int.add a b)) s)
  (fun k a b s => vInt k (wr k (Int.sub a b)) s)
  (fun k a b s => vInt k (wr k (Int.mul a b)) s)
  (fun k a b s => bif eqI b 0 then .no else vInt k (wr k (Int.tdiv a b)) s)
  (fun k a b s => bif eqI b 0 then .no else vInt k (Int.tmod a b) s)
  (fun k a b s => onNats a b fun m n => vInt k (wr k (.ofNat (Nat.land (Nat.mod m (p2k k)) (Nat.mod n (p2k k))))) s)
  (fun k a b s => onNats a b fun m n => vInt k (wr k (.ofNat (Nat.lor (Nat.mod m (p2k k)) (Nat.mod n (p2k k))))) s)
  (fun k a b s => onNats a b fun m n => vInt k (wr k (.ofNat (Nat.xor (Nat.mod m (p2k k)) (Nat.mod n (p2k k))))) s)
  (fun _ _ _ _ => .no)
  (fun _ _ _ _ => .no)
  (fun _ a b s => vBool (eqI a b) s)
  (fun _ a b s => vBool (not (eqI a b)) s)
  (fun _ a b s => vBool (ltI a b) s)
  (fun _ a b s => vBool (not (ltI b a)) s)
  (fun _ a b s => vBool (ltI b a) s)
  (fun _ a b s => vBool (not (ltI a b)) s)
noncomputable def shN (k : IntKind) (n : Nat) : Nat := bif Nat.ble n (bitk k) then n else bitk k
noncomputable def shl (k : IntKind) (a b : Int) (s : St) : R := match b with | .ofNat n => vInt k (wr k (Int.mul a (.ofNat (Nat.pow 2 (shN k n))))) s | _ => .no
noncomputable def shr (k : IntKind) (a b : Int) (s : St) : R := match a, b with | .ofNat m, .ofNat n => vInt k (.ofNat (Nat.div m (Nat.pow 2 (shN k n)))) s | _, _ => .no
noncomputable def binK (op : B2) (k : IntKind) (a : Int) (k' : IntKind) (b : Int) (s : St) : R := bif Nat.beq (kno k) (kno k') then binII op k a b s else .no
noncomputable def binI (op : B2) : IntKind → Int → IntKind → Int → St → R := B2.casesOn op
  (binK .add) (binK .sub) (binK .mul) (binK .quo) (binK .rem) (binK .and) (binK .or) (binK .xor) (fun k a _ b s => shl k a b s) (fun k a _ b s => shr k a b s) (binK .eq) (binK .ne) (binK .lt) (binK .le) (binK .gt) (binK .ge)
noncomputable def binS (op : B2) : List Nat → List Nat → St → R := B2.casesOn op
  (fun a b s => bif Nat.ble (Nat.add (lenN a) (lenN b)) 1073741824 then .val (.str (appN a b)) s else .no)
  (fun _ _ _ => .no) (fun _ _ _ => .no) (fun _ _ _ => .no) (fun _ _ _ => .no) (fun _ _ _ => .no) (fun _ _ _ => .no) (fun _ _ _ => .no) (fun _ _ _ => .no) (fun _ _ _ => .no)
  (fun a b s => vBool (beqN a b) s)
  (fun a b s => vBool (not (beqN a b)) s)
  (fun a b s => vBool (ltN a b) s)
  (fun _ _ _ => .no)
  (fun _ _ _ => .no)
  (fun _ _ _ => .no)
/-- Two cells of a kind (0: truth, 1: number, 2: text): are they alike? -/
noncomputable def eqC (k : Nat) (a b : AV) : Option Bool := match a with
  | .bool x => (match b with | .bool y => bif Nat.beq k 0 then some (Bool.casesOn x (not y) y) else none | _ => none)
  | .int i x => (match b with | .int j y => bif Nat.beq k 1 && Nat.beq (kno i) (kno j) then some (eqI x y) else none | _ => none)
  | .str x => (match b with | .str y => bif Nat.beq k 2 then some (beqN x y) else none | _ => none)
  | _ => none
noncomputable def eqCs (sg : List Nat) : List AV → List AV → Option Bool := List.rec (motive := fun _ => List AV → List AV → Option Bool) (fun _ _ => some true) (fun k _ ih a b => List.casesOn a none (fun x r => List.casesOn b none (fun y q => Option.casesOn (eqC k x y) none (fun t => Bool.casesOn t (some false) (ih r q))))) sg
noncomputable def binR (op : B2) (x y : AV) (s : St) : R := match x with
  | .int k a => (match y with | .int k' b => binI op k a k' b s | _ => .no)
  | .str a => (match y with | .str b => binS op a b s | _ => .no)
  | _ => .no
noncomputable def neg (ne b : Bool) : Bool := Bool.casesOn ne b (not b)
noncomputable def eqbR (ne : Bool) (x y : AV) (s : St) : R := match x with
  | .bool a => (match y with | .bool b => vBool (neg ne (Bool.casesOn a (not b) b)) s | _ => .no)
  | _ => .no
noncomputable def eqsR (ne : Bool) (x y : AV) (s : St) : R := match y with
  | .nilsl => (match x with | .nilsl => vBool (neg ne true) s | .sl .. => vBool (neg ne false) s | .so .. => vBool (neg ne false) s | _ => .no)
  | _ => .no
noncomputable def eqpR (ne : Bool) (x y : AV) (s : St) : R := match y with
  | .nilptr => (match x with | .nilptr => vBool (neg ne true) s | .ptr .. => vBool (neg ne false) s | _ => .no)
  | _ => .no
noncomputable def eqaR (sg : List Nat) (ne : Bool) (x y : AV) (s : St) : R := match x with
  | .agg a => (match y with | .agg b => bif Nat.beq (lenA a) (lenN sg) && Nat.beq (lenA b) (lenN sg) then orNo (eqCs sg a b) fun t => vBool (neg ne t) s else .no | _ => .no)
  | _ => .no

noncomputable def newO (s : St) (c : List AV) (f : Nat → St → R) : R := bif allOne c then f s.nxt ⟨(s.nxt, c) :: s.heap, Nat.succ s.nxt, s.wd⟩ else .no
noncomputable def wrO (s : St) (id : Nat) (c : List AV) : St := ⟨put s.heap id c, s.nxt, s.wd⟩
noncomputable def loadR (s : St) (v : AV) (n : Nat) (g : Bool) : R := match v with
  | .ptr id off => orNo (get s.heap id) fun c => orNo (cellsAt c off n) fun l => mkV g l s
  | _ => .no
noncomputable def storeR (s : St) (p v : AV) (n : Nat) : R := match p with
  | .ptr id off => orNo (get s.heap id) fun c => orNo (cellsV v) fun vs => bif Nat.beq (lenA vs) n && allOne vs then orNo (setC c vs off) fun c' => .eff .undef (wrO s id c') [id] else .no
  | _ => .no
noncomputable def fill (fr : Tr) (L : List AV) (ps : List (Nat × Nat × X)) : List AV → Option (List AV) :=
  List.rec (motive := fun _ => List AV → Option (List AV)) (fun z => some z) (fun p _ ih z => Option.casesOn (cellsV (rd p.2.2 fr L)) none fun vs => bif Nat.beq (lenA vs) p.2.1 then Option.casesOn (setC z vs p.1) none ih else none) ps
noncomputable def iaR (s : St) (esz : Nat) (v i : AV) : R := onNat i fun i => match v with
  | .sl id off len _ => bif Nat.blt i len then .val (.ptr id (off + i * esz)) s else .no
  | .so id off len _ => bif Nat.blt i len then .val (.ptr id (off + i * esz)) s else .no
  | _ => .no
noncomputable def iapR (s : St) (n esz : Nat) (v i : AV) : R := onNat i fun i => match v with
  | .ptr id off => bif Nat.blt i n then .val (.ptr id (off + i * esz)) s else .no
  | _ => .no
noncomputable def idxR (s : St) (v i : AV) : R := onNat i fun i => match v with
  | .str l => orNo (nthN l i) fun b => .val (.int .u8 (.ofNat b)) s
  | _ => .no
noncomputable def idxaR (s : St) (n esz : Nat) (g : Bool) (v i : AV) : R := onNat i fun i => match v with
  | .agg l => bif Nat.blt i n then orNo (cellsAt l (i * esz) esz) fun l => mkV g l s else .no
  | _ => .no
noncomputable def optN (fr : Tr) (L : List AV) (o : Option X) (d : Nat) (f : Nat → R) : R := Option.casesOn o (f d) (fun x => onNat (rd x fr L) f)
noncomputable def slcR (fr : Tr) (L : List AV) (s : St) (esz : Nat) (v : AV) (lo hi mx : Option X) : R := match v with
  | .str l => bif Nat.beq esz 0 then Option.casesOn mx (optN fr L hi (lenN l) fun h => optN fr L lo 0 fun w => bif Nat.ble h (lenN l) && Nat.ble w h then .val (.str (takeN (dropN l w) (h - w))) s else .no) (fun _ => .no) else .no
  | .nilsl => bif Nat.beq esz 0 then .no else Option.casesOn mx (optN fr L hi 0 fun h => optN fr L lo 0 fun w => bif Nat.beq h 0 && Nat.beq w 0 then .val .nilsl s else .no) (fun _ => .no)
  | .sl id off len cap => bif Nat.beq esz 0 then .no else optN fr L mx cap fun m => optN fr L hi len fun h => optN fr L lo 0 fun w => bif Nat.ble m cap && Nat.ble h m && Nat.ble w h && (Option.casesOn hi (Option.casesOn mx true fun _ => false) fun _ => true) then .val (.sl id (bif Nat.beq m w then off else off + w * esz) (h - w) (m - w)) s else .no
  | .so id off len e => orNo (get s.heap id) fun c => bif Nat.beq e esz then Option.casesOn mx
      (optN fr L hi len fun h => optN fr L lo 0 fun w => bif Nat.ble (off + h * esz) (lenA c) && Nat.ble w h && (Nat.beq w 0 || Nat.blt (off + w * esz) (lenA c)) then .val (.so id (off + w * esz) (h - w) e) s else .no)
      (fun x => onNat (rd x fr L) fun m => Option.casesOn hi .no fun y => onNat (rd y fr L) fun h => optN fr L lo 0 fun w => bif Nat.ble (off + m * esz) (lenA c) && Nat.ble h m && Nat.ble w h then .val (.sl id (bif Nat.beq m w then off else off + w * esz) (h - w) (m - w)) s else .no) else .no
  | _ => .no
noncomputable def bytesOf (l : List AV) : Option (List Nat) := List.rec (motive := fun _ => Option (List Nat)) (some []) (fun v _ ih => match v with | .int .u8 (.ofNat n) => bif Nat.blt n 256 then Option.casesOn ih none (fun r => some (n :: r)) else none | _ => none) l
noncomputable def ofBytes (l : List Nat) : List AV := List.rec (motive := fun _ => List AV) [] (fun n _ ih => .int .u8 (.ofNat n) :: ih) l
/-- The first n elements' cells. -/
noncomputable def srcR (s : St) (esz : Nat) (n : Nat) (v : AV) (f : List AV → R) : R := match v with
  | .nilsl => bif Nat.beq n 0 then f [] else .no
  | .str l => bif Nat.beq esz 1 && Nat.ble n (lenN l) then f (ofBytes (takeN l n)) else .no
  | .sl id off _ _ => orNo (get s.heap id) fun c => orNo (cellsAt c off (n * esz)) f
  | .so id off _ _ => orNo (get s.heap id) fun c => orNo (cellsAt c off (n * esz)) f
  | _ => .no
noncomputable def lenR (v : AV) (f : Nat → R) : R := match v with
  | .nilsl => f 0 | .sl _ _ n _ => f n | .so _ _ n _ => f n | .str l => f (lenN l) | _ => .no
/-- The same, of a slice alone. -/
noncomputable def srcA (s : St) (esz : Nat) (n : Nat) (v : AV) (f : List AV → R) : R := match v with
  | .str _ => .no
  | v => srcR s esz n v f
noncomputable def lenA? (v : AV) (f : Nat → R) : R := match v with
  | .nilsl => f 0 | .sl _ _ n _ => f n | .so _ _ n _ => f n | _ => .no
noncomputable def appR (s : St) (esz : Nat) (d : AV) (n : Nat) (nw : List AV) : R := match d with
  | .nilsl => bif Nat.beq n 0 then .eff .nilsl s [] else newO s nw fun id s => .eff (.so id 0 n esz) s []
  | .sl id off len cap => orNo (get s.heap id) fun c =>
      bif Nat.ble (len + n) cap then orNo (setC c nw (off + len * esz)) fun c' => bif allOne nw then .eff (.sl id off (len + n) cap) (wrO s id c') [id] else .no
      else orNo (cellsAt c off (len * esz)) fun old => newO s (app old nw) fun id s => .eff (.so id 0 (len + n) esz) s []
  | .so id off len e => orNo (get s.heap id) fun c => bif Nat.beq e esz then
      bif Nat.ble (off + (len + n) * esz) (lenA c) then orNo (setC c nw (off + len * esz)) fun c' => bif allOne nw then .eff (.so id off (len + n) e) (wrO s id c') [id] else .no
      else orNo (cellsAt c off (len * esz)) fun old => newO ⟨del s.heap id, s.nxt, s.wd⟩ (app old nw) fun id' s => .eff (.so id' 0 (len + n) e) s [id] else .no
  | _ => .no
noncomputable def minN (a b : Nat) : Nat := bif Nat.ble a b then a else b
noncomputable def cpyR (s : St) (esz : Nat) (d x : AV) : R := lenR x fun n0 => match d with
  | .nilsl => .eff (.int .i64 (.ofNat 0)) s []
  | .sl id off len _ => srcR s esz (minN n0 len) x fun l => orNo (get s.heap id) fun c => orNo (setC c l off) fun c' => bif allOne l then .eff (.int .i64 (.ofNat (minN n0 len))) (wrO s id c') [id] else .no
  | .so id off len _ => srcR s esz (minN n0 len) x fun l => orNo (get s.heap id) fun c => orNo (setC c l off) fun c' => bif allOne l then .eff (.int .i64 (.ofNat (minN n0 len))) (wrO s id c') [id] else .no
  | _ => .no
noncomputable def clrR (s : St) (esz : Nat) (z : List AV) (v : AV) : R := match v with
  | .nilsl => .eff (.tup []) s []
  | .sl id off n _ => orNo (get s.heap id) fun c => orNo (setC c (rep n z) off) fun c' => bif allOne (rep n z) && Nat.beq (lenA z) esz then .eff (.tup []) (wrO s id c') [id] else .no
  | .so id off n _ => orNo (get s.heap id) fun c => orNo (setC c (rep n z) off) fun c' => bif allOne (rep n z) && Nat.beq (lenA z) esz then .eff (.tup []) (wrO s id c') [id] else .no
  | _ => .no
noncomputable def nthO (l : List AV) : Nat → Option AV := List.rec (motive := fun _ => Nat → Option AV) (fun _ => none) (fun x _ ih n => Nat.casesOn n (some x) ih) l
noncomputable def extR (s : St) (v : AV) (i : Nat) : R := match v with | .tup l => orNo (nthO l i) fun v => .val v s | _ => .no
noncomputable def pickR (s : St) (c a b : AV) : R := match c with | .bool t => .val (Bool.casesOn t b a) s | _ => .no
noncomputable def callR (s : St) (f : AV) (args : List AV) : R := match f with | .fn f cs => .call f (app args cs) s | _ => .no
noncomputable def nilcR (s : St) (v : AV) : R := match v with | .ptr .. => .val v s | _ => .no
noncomputable def notR (s : St) (v : AV) : R := match v with | .bool b => vBool (not b) s | _ => .no
noncomputable def convR (s : St) (k : IntKind) (v : AV) : R := match v with | .int _ n => vInt k (wr k n) s | _ => .no
noncomputable def s2bR (s : St) (v : AV) : R := match v with | .str l => newO s (ofBytes l) fun id s => .val (.so id 0 (lenN l) 1) s | _ => .no
noncomputable def b2sR (s : St) (v : AV) : R := match v with
  | .nilsl => .val (.str []) s
  | .sl id off n _ => orNo (get s.heap id) fun c => orNo (cellsAt c off n) fun l => orNo (bytesOf l) fun b => .val (.str b) s
  | .so id off n _ => orNo (get s.heap id) fun c => orNo (cellsAt c off n) fun l => orNo (bytesOf l) fun b => .val (.str b) s
  | _ => .no
noncomputable def faR (s : St) (o : Nat) (v : AV) : R := match v with | .ptr id off => .val (.ptr id (off + o)) s | _ => .no
noncomputable def fldR (s : St) (o n : Nat) (g : Bool) (v : AV) : R := match v with | .agg l => orNo (cellsAt l o n) fun l => mkV g l s | _ => .no
noncomputable def lensR (s : St) (v : AV) : R := match v with | .str l => .val (.int .i64 (.ofNat (lenN l))) s | _ => .no
noncomputable def capR (s : St) (v : AV) : R := match v with | .nilsl => .val (.int .i64 (.ofNat 0)) s | .sl _ _ _ c => .val (.int .i64 (.ofNat c)) s | _ => .no
noncomputable def mnR (s : St) (a b : AV) : R := match a with | .int k x => (match b with | .int _ y => bif ltI y x then .val (.int k y) s else .val (.int k x) s | _ => .no) | _ => .no
noncomputable def mxR (s : St) (a b : AV) : R := match a with | .int k x => (match b with | .int _ y => bif ltI x y then .val (.int k y) s else .val (.int k x) s | _ => .no) | _ => .no
noncomputable def mkslR (s : St) (esz by_ : Nat) (z : List AV) (l c : AV) : R := onNat l fun l => onNat c fun c => bif Nat.ble l c && Nat.ble (c * by_) 1073741824 && Nat.beq (lenA z) esz then newO s (rep c z) fun id s => .val (.sl id 0 l c) s else .no
noncomputable def small (n : Nat) (r : R) : R := bif Nat.ble n 1073741824 then r else .no

noncomputable def step (i : I) : Tr → List AV → St → R := I.casesOn i
  (fun x fr L s => .val (rd x fr L) s)
  (fun c a b fr L s => pickR s (rd c fr L) (rd a fr L) (rd b fr L))
  (fun x fr L s => orNo (cellsV (rd x fr L)) fun c => newO s c fun id s => .val (.ptr id 0) s)
  (fun z ps fr L s => orNo (fill fr L ps z) fun c => .val (.agg c) s)
  (fun n esz z ps fr L s => bif Nat.beq (lenA z) esz then orNo (fill fr L ps (rep n z)) fun c => newO s c fun id s => .val (.sl id 0 n n) s else .no)
  (fun n g x fr L s => loadR s (rd x fr L) n g)
  (fun n a x fr L s => storeR s (rd a fr L) (rd x fr L) n)
  (fun x fr L s => nilcR s (rd x fr L))
  (fun op a b fr L s => binR op (rd a fr L) (rd b fr L) s)
  (fun x fr L s => notR s (rd x fr L))
  (fun k x fr L s => convR s k (rd x fr L))
  (fun x fr L s => s2bR s (rd x fr L))
  (fun x fr L s => b2sR s (rd x fr L))
  (fun o x fr L s => faR s o (rd x fr L))
  (fun o n g x fr L s => fldR s o n g (rd x fr L))
  (fun esz x i fr L s => iaR s esz (rd x fr L) (rd i fr L))
  (fun n esz x i fr L s => iapR s n esz (rd x fr L) (rd i fr L))
  (fun x i fr L s => idxR s (rd x fr L) (rd i fr L))
  (fun n esz g x i fr L s => idxaR s n esz g (rd x fr L) (rd i fr L))
  (fun esz x lo hi mx fr L s => slcR fr L s esz (rd x fr L) lo hi mx)
  (fun esz b z l c fr L s => mkslR s esz b z (rd l fr L) (rd c fr L))
  (fun f cs fr L s => .val (.fn f (rds cs fr L)) s)
  (fun x i fr L s => extR s (rd x fr L) i)
  (fun f args fr L s => callR s (rd f fr L) (rds args fr L))
  (fun x fr L s => lenA? (rd x fr L) fun n => .val (.int .i64 (.ofNat n)) s)
  (fun x fr L s => lensR s (rd x fr L))
  (fun x fr L s => capR s (rd x fr L))
  (fun esz a b fr L s => lenA? (rd b fr L) fun n => small n (lenA? (rd a fr L) fun k => small k (srcA s esz n (rd b fr L) fun l => appR s esz (rd a fr L) n l)))
  (fun esz z a b fr L s => onNat (rd b fr L) fun n => small n (lenA? (rd a fr L) fun k => small k (bif Nat.beq (lenA z) esz then appR s esz (rd a fr L) n (rep n z) else .no)))
  (fun esz a b fr L s => cpyR s esz (rd a fr L) (rd b fr L))
  (fun a b fr L s => mnR s (rd a fr L) (rd b fr L))
  (fun a b fr L s => mxR s (rd a fr L) (rd b fr L))
  (fun esz z x fr L s => clrR s esz z (rd x fr L))
  (fun sg ne a b fr L s => eqaR sg ne (rd a fr L) (rd b fr L) s)
  (fun ne a b fr L s => eqbR ne (rd a fr L) (rd b fr L) s)
  (fun ne a b fr L s => eqsR ne (rd a fr L) (rd b fr L) s)
  (fun ne a b fr L s => eqpR ne (rd a fr L) (rd b fr L) s)
  (fun _ _ _ => .no)

/-! ### Code -/
/-- What code comes to: nothing; its end, an exit, a return, each with the frame. -/
inductive RC where
  | no
  | nrm (fr : Tr) (s : St)
  | ext (n : Nat) (fr : Tr) (s : St)
  | ret (fr : Tr) (s : St)
/-- What a call comes to: a value, and which objects of those that were there it wrote. -/
inductive RF where
  | no
  | ok (v : AV) (s : St) (w : List Nat)
inductive RO where
  | no
  | ok (L : List AV) (s : St)

/-- Does the guard let it run? None: it cannot be told. -/
noncomputable def wanted (g : Option (X × Bool)) (fr : Tr) (L : List AV) : Option Bool := Option.casesOn g (some true) (fun p => match rd p.1 fr L with | .bool b => some (Bool.casesOn b (not p.2) p.2) | .tup _ => some false | _ => none)
noncomputable def addW (base : Nat) (w wd : List Nat) : List Nat := List.rec (motive := fun _ => List Nat) wd (fun id _ ih => bif Nat.blt id base then id :: ih else ih) w

noncomputable def evOps (call : Nat → List AV → St → RF) (base : Nat) (l : List O) : Tr → List AV → St → RO :=
  List.rec (motive := fun _ => Tr → List AV → St → RO) (fun _ L s => .ok L s)
    (fun o _ ih fr L s => Option.casesOn (wanted o.g fr L) .no fun t => Bool.casesOn t (ih fr (.tup [] :: L) s)
      (R.casesOn (step o.i fr L s) .no
        (fun v s => ih fr (v :: L) s)
        (fun v s w => ih fr (v :: L) ⟨s.heap, s.nxt, addW base w s.wd⟩)
        (fun f args s => RF.casesOn (call f args s) .no (fun v s w => ih fr (v :: L) ⟨s.heap, s.nxt, addW base w s.wd⟩)))) l

/-- The object that a value leads to. -/
noncomputable def idOf (v : AV) (l : List Nat) : List Nat := match v with | .ptr id _ => id :: l | .sl id _ _ _ => id :: l | .so id _ _ _ => id :: l | _ => l
/-- Which objects an operation that only reads looks into. -/
noncomputable def reads (i : I) : Tr → List AV → List Nat := I.casesOn i
  (fun _ _ _ => []) (fun _ _ _ _ _ => []) (fun _ _ _ => []) (fun _ _ _ _ => []) (fun _ _ _ _ _ _ => [])
  (fun _ _ x fr L => idOf (rd x fr L) [])
  (fun _ _ _ _ _ => []) (fun _ _ _ => []) (fun _ _ _ _ _ => []) (fun _ _ _ => []) (fun _ _ _ _ => []) (fun _ _ _ => [])
  (fun x fr L => idOf (rd x fr L) [])
  (fun _ _ _ _ => []) (fun _ _ _ _ _ _ => []) (fun _ _ _ _ _ => []) (fun _ _ _ _ _ _ => []) (fun _ _ _ _ => []) (fun _ _ _ _ _ _ _ => [])
  (fun _ x _ _ _ fr L => idOf (rd x fr L) [])
  (fun _ _ _ _ _ _ _ => []) (fun _ _ _ _ => []) (fun _ _ _ _ => []) (fun _ _ _ _ => []) (fun _ _ _ => []) (fun _ _ _ => []) (fun _ _ _ => [])
  (fun _ _ _ _ _ => []) (fun _ _ _ _ _ _ => []) (fun _ _ _ _ _ => []) (fun _ _ _ _ => []) (fun _ _ _ _ => []) (fun _ _ _ _ _ => []) (fun _ _ _ _ _ _ => []) (fun _ _ _ _ _ => []) (fun _ _ _ _ _ => []) (fun _ _ _ _ _ => []) (fun _ _ => [])
/-- No object of the first row is in the second. -/
noncomputable def disj (a b : List Nat) : Bool := List.rec (motive := fun _ => Bool) true (fun x _ ih => bif memN x b then false else ih) a
/-- Has nothing of the first row been written by the operations (by place) of the second? -/
noncomputable def clear (r : List Nat) (na : List Nat) (wl : List (Nat × List Nat)) : Bool := List.rec (motive := fun _ => Bool) true (fun p _ ih => bif memN p.1 na then (bif disj r p.2 then ih else false) else ih) wl
noncomputable def addL (k : Nat) (w : List Nat) (wl : List (Nat × List Nat)) : List (Nat × List Nat) := List.casesOn w wl (fun _ _ => (k, w) :: wl)

noncomputable def evDrw (call : Nat → List AV → St → RF) (base : Nat) (l : List (O × List Nat)) : Nat → List (Nat × List Nat) → Tr → List AV → St → RO :=
  List.rec (motive := fun _ => Nat → List (Nat × List Nat) → Tr → List AV → St → RO) (fun _ _ _ L s => .ok L s)
    (fun o _ ih k wl fr L s => Option.casesOn (wanted o.1.g fr L) .no fun t => Bool.casesOn t (ih (Nat.succ k) wl fr (.tup [] :: L) s)
      (Bool.casesOn (List.casesOn o.2 true fun _ _ => clear (reads o.1.i fr L) o.2 wl) .no
        (R.casesOn (step o.1.i fr L s) .no
          (fun v s => ih (Nat.succ k) wl fr (v :: L) s)
          (fun v s w => ih (Nat.succ k) (addL k w wl) fr (v :: L) ⟨s.heap, s.nxt, addW base w s.wd⟩)
          (fun f args s => RF.casesOn (call f args s) .no (fun v s w => ih (Nat.succ k) (addL k w wl) fr (v :: L) ⟨s.heap, s.nxt, addW base w s.wd⟩))))) l

noncomputable def upds (u : List (P × X)) (fr0 : Tr) (L : List AV) : Tr → Tr := List.rec (motive := fun _ => Tr → Tr) (fun t => t) (fun q _ ih t => ih (updT (rd q.2 fr0 L) q.1 t)) u

abbrev CT := C → Nat → Tr → St → RC
abbrev FT := Nat → List AV → St → RF

noncomputable def stC (ih : CT × FT) (c : C) : Nat → Tr → St → RC := C.casesOn c
  (fun _ fr s => .nrm fr s)
  (fun _ fr s => .ret fr s)
  (fun n _ fr s => .ext n fr s)
  (fun a b base fr s => RC.casesOn (ih.1 a base fr s) .no (fun fr s => ih.1 b base fr s) .ext .ret)
  (fun x a b base fr s => match rd x fr [] with | .bool t => Bool.casesOn t (ih.1 b base fr s) (ih.1 a base fr s) | _ => .no)
  (fun n b base fr s => RC.casesOn (ih.1 b base fr s) .no .nrm (fun m fr s => bif Nat.beq m n then .nrm fr s else .ext m fr s) .ret)
  (fun b base fr s => RC.casesOn (ih.1 b base fr s) .no (fun fr s => ih.1 (.loop b) base fr s) .ext .ret)
  (fun l u base fr s => RO.casesOn (evOps ih.2 base l fr [] s) .no (fun L s => .nrm (upds u fr L fr) s))
  (fun l u base fr s => RO.casesOn (evDrw ih.2 base l 0 [] fr [] s) .no (fun L s => .nrm (upds u fr L fr) s))

noncomputable def ref1 (v : AV) (acc : List Nat) : List Nat := match v with | .ptr id _ => id :: acc | .sl id _ _ _ => id :: acc | .so id _ _ _ => id :: acc | _ => acc
noncomputable def refL1 (l : List AV) (acc : List Nat) : List Nat := List.rec (motive := fun _ => List Nat) acc (fun v _ ih => ref1 v ih) l
noncomputable def ref2 (v : AV) (acc : List Nat) : List Nat := match v with | .fn _ l => refL1 l acc | v => ref1 v acc
noncomputable def refL (l : List AV) (acc : List Nat) : List Nat := List.rec (motive := fun _ => List Nat) acc (fun v _ ih => ref2 v ih) l
noncomputable def ref3 (v : AV) (acc : List Nat) : List Nat := match v with | .agg l => refL l acc | v => ref2 v acc
noncomputable def refV (v : AV) : List Nat := match v with | .agg l => refL l [] | .tup l => List.rec (motive := fun _ => List Nat) [] (fun v _ ih => ref3 v ih) l | v => ref2 v []
noncomputable def gc (base : Nat) (h : Heap) (n : Nat) : List Nat → List Nat → List Nat := Nat.rec (motive := fun _ => List Nat → List Nat → List Nat) (fun _ v => v)
  (fun _ ih w v => List.casesOn w v (fun id r => bif Nat.blt id base then ih r v else bif memN id v then ih r v else Option.casesOn (get h id) (ih r v) (fun c => ih (refL c r) (id :: v)))) n
noncomputable def keep (base : Nat) (v : List Nat) (h : Heap) : Heap := List.rec (motive := fun _ => Heap) [] (fun p r ih => bif Nat.blt p.1 base then p :: r else bif memN p.1 v then p :: ih else ih) h
noncomputable def dropNew (base : Nat) (h : Heap) : Heap := List.rec (motive := fun _ => Heap) [] (fun p r ih => bif Nat.blt p.1 base then p :: r else ih) h
noncomputable def cellsOfL (h : Heap) (l : List Nat) (acc : List Nat) : List Nat := List.rec (motive := fun _ => List Nat) acc (fun id _ ih => Option.casesOn (get h id) ih (fun c => refL c ih)) l
/-- At a return: what nobody can reach is struck. -/
noncomputable def fin (s s' : St) (v : AV) : RF := List.casesOn s'.wd
   (List.casesOn (refV v) (RF.ok v ⟨dropNew s.nxt s'.heap, s'.nxt, s.wd⟩ []) (fun a r => .ok v ⟨keep s.nxt (gc s.nxt s'.heap 100000 (a :: r) []) s'.heap, s'.nxt, s.wd⟩ []))
   (fun a r => .ok v ⟨keep s.nxt (gc s.nxt s'.heap 100000 (cellsOfL s'.heap (a :: r) (refV v)) []) s'.heap, s'.nxt, s.wd⟩ (a :: r))
noncomputable def results (fr : Tr) (s : St) (l : List (P × Option (Nat × Bool))) : (List AV → RF) → RF :=
  List.rec (motive := fun _ => (List AV → RF) → RF) (fun f => f []) (fun p _ ih f => Option.casesOn p.2 (ih fun l => f (look p.1 fr :: l))
    (fun q => R.casesOn (loadR s (look p.1 fr) q.1 q.2) .no (fun v _ => ih fun l => f (v :: l)) (fun _ _ _ => .no) (fun _ _ _ => .no))) l
noncomputable def one (l : List AV) : AV := List.casesOn l (.tup []) (fun v r => List.casesOn r v (fun _ _ => .tup l))
noncomputable def retF (fn : FN) (s : St) (fr : Tr) (s' : St) : RF := results fr s' fn.res fun l => fin s s' (one l)
noncomputable def iniF (ps : List (Option P)) : List AV → Tr → Tr := List.rec (motive := fun _ => List AV → Tr → Tr) (fun _ t => t) (fun p _ ih l t => List.casesOn l t (fun v r => ih r (Option.casesOn p t fun p => updT v p t))) ps
noncomputable def stF (F : Nat → Option FN) (ih : CT × FT) : FT := fun f args s => Option.casesOn (F f) .no fun fn =>
  RC.casesOn (ih.1 fn.code s.nxt (iniF fn.par args fn.ini) ⟨s.heap, s.nxt, []⟩) .no (fun fr s' => retF fn s fr s') (fun _ _ _ => .no) (fun fr s' => retF fn s fr s')
noncomputable def orac (Q : Nat → Option FT) (F : Nat → Option FN) (ih : CT × FT) : FT := fun f args s => Option.casesOn (Q f) (stF F ih f args s) fun o => o f args s
/-- The evaluator, of so many levels. -/
noncomputable def evAll (Q : Nat → Option FT) (F : Nat → Option FN) (n : Nat) : CT × FT :=
  Nat.rec (motive := fun _ => CT × FT) (fun _ _ _ _ => .no, fun _ _ _ => .no) (fun _ ih => (stC ih, orac Q F ih)) n
end Go.Pal
