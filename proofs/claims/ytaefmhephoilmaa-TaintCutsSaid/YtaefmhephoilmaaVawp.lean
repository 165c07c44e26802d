/- From code to what it asks of a view: definitions. -/
import Derived.Test.YtaefmhephoilmaaVdef
namespace Go.VL
open Go

/- a value of a layout, if it is one -/
def getK : (k : Kd) → Value → Option k.T
  | .int k, .int k' n => match decEq k' k with
    | .isTrue _ => some n
    | .isFalse _ => none
  | .bool, .bool b => some b
  | .str, .string s => some s
  | .ptr, .pointer a => some a
  | .sl, .slice a n c => some ⟨a, n, c⟩
  | .mp, .map r => some r
  | .raw, v => some v
  | _, _ => none
def getKs : (ks : List Kd) → List Value → Option (Tys ks)
  | [], [] => some ()
  | k :: ks, v :: vs => match getK k v, getKs ks vs with
    | some x, some s => some (x, s)
    | _, _ => none
  | _, _ => none
def getL : (l : Ly) → Value → Option l.T
  | .one k, v => getK k v
  | .agg ks, .agg cs => getKs ks cs.toList
  | .agg _, _ => none

def evs (E : Env) : List Operand → Option (List Value)
  | [] => some []
  | x :: xs => match ev E x, evs E xs with
    | some v, some vs => some (v :: vs)
    | _, _ => none
def evo (E : Env) : Option Operand → Option (Option Int)
  | none => some none
  | some x => match ev E x with
    | some (.int _ n) => some (some n)
    | _ => none
def evp (E : Env) : List (Nat × Operand) → Option (List (Nat × Value))
  | [] => some []
  | (i, x) :: xs => match ev E x, evp E xs with
    | some v, some vs => some ((i, v) :: vs)
    | _, _ => none

def rint (op : BinOp) (k : IntKind) (a b : Int) : Option R :=
  match op with
  | .add => some (.ret (.int k (k.wrap (a + b))))
  | .sub => some (.ret (.int k (k.wrap (a - b))))
  | .mul => some (.ret (.int k (k.wrap (a * b))))
  | .quo => some (.chk (b ≠ 0) (.int k (k.wrap (a.tdiv b))))
  | .rem => some (.chk (b ≠ 0) (.int k (a.tmod b)))
  | .and => some (.ret (.int k (bits .and k a b)))
  | .or => some (.ret (.int k (bits .or k a b)))
  | .xor => some (.ret (.int k (bits .xor k a b)))
  | .eql => some (.ret (.bool (a == b)))
  | .neq => some (.ret (.bool (a != b)))
  | .lss => some (.ret (.bool (decide (a < b))))
  | .leq => some (.ret (.bool (decide (a ≤ b))))
  | .gtr => some (.ret (.bool (decide (a > b))))
  | .geq => some (.ret (.bool (decide (a ≥ b))))
  | _ => none
def isMapT (P : Program) (t : TypeId) : Bool := match P.underlying t with
  | some (.map _ _) => true
  | _ => false
def isSliceT (P : Program) (t : TypeId) : Bool := match P.underlying t with
  | some (.slice _) => true
  | _ => false
def isPtrT (P : Program) (t : TypeId) : Bool := match P.underlying t with
  | some (.pointer _) => true
  | _ => false
def isBoolT (P : Program) (t : TypeId) : Bool := match P.underlying t with
  | some .bool => true
  | _ => false
def isFuncT (P : Program) (t : TypeId) : Bool := match P.underlying t with
  | some (.func _ _ _) => true
  | _ => false
def isStrT (P : Program) (t : TypeId) : Bool := match P.underlying t with
  | some .string => true
  | _ => false
def isAggT (P : Program) (t : TypeId) : Bool := match P.underlying t with
  | some (.struct _) => true
  | some (.array _ _) => true
  | _ => false
def cellsN (P : Program) (t : TypeId) : Nat := ((P.info? t).map (·.size)).getD 0
def partV (P : Program) (f : Field) (cs : List Value) : Option Value :=
  bif isAggT P f.type then some (.agg ⟨(cs.drop f.offset).take (cellsN P f.type)⟩) else cs[f.offset]?
/- equality of structs whose fields are numbers, truths and texts -/
def eqFs (P : Program) : List Field → List Value → List Value → Option Bool
  | [], _, _ => some true
  | f :: fs, xs, ys => bif f.name == "_" then none else match P.underlying f.type, partV P f xs, partV P f ys with
    | some (.int _), some (.int k a), some (.int k' b) => bif decide (k = k') then (eqFs P fs xs ys).map fun r => (a == b) && r else none
    | some .bool, some (.bool a), some (.bool b) => (eqFs P fs xs ys).map fun r => (a == b) && r
    | some .string, some (.string a), some (.string b) => (eqFs P fs xs ys).map fun r => (a.toList == b.toList) && r
    | _, _, _ => none
def eqAgg (P : Program) (t : TypeId) (xs ys : Array Value) : Option Bool := match P.underlying t with
  | some (.struct fs) => bif P.stoodInHeld t || P.eqGuardType P.depth t then none else eqFs P fs.toList xs.toList ys.toList
  | _ => none
def rbin (P : Program) (op : BinOp) (t : TypeId) (x y : Value) : Option R :=
  match x, y with
  | .int k a, .int k' b => match op with
    | .shl => some (.chk (0 ≤ b) (.int k (k.wrap (a * 2 ^ (min b.toNat k.bits)))))
    | .shr => some (.chk (0 ≤ b) (.int k (a.fdiv (2 ^ (min b.toNat k.bits)))))
    | op => match decEq k k' with
      | .isTrue _ => rint op k a b
      | .isFalse _ => none
  | .bool a, .bool b => bif isBoolT P t then match op with
    | .eql => some (.ret (.bool (a == b)))
    | .neq => some (.ret (.bool (!(a == b))))
    | _ => none else none
  | .string a, .string b => match op with
    | .eql => some (.ret (.bool (a.toList == b.toList)))
    | .neq => some (.ret (.bool (!(a.toList == b.toList))))
    | _ => none
  | .map a, .map none => bif isMapT P t then match op with
    | .eql => some (.ret (.bool a.isNone))
    | .neq => some (.ret (.bool (!a.isNone)))
    | _ => none else none
  | .slice a _ _, .slice none _ _ => bif isSliceT P t then match op with
    | .eql => some (.ret (.bool a.isNone))
    | .neq => some (.ret (.bool (!a.isNone)))
    | _ => none else none
  | .pointer a, .pointer none => bif isPtrT P t then match op with
    | .eql => some (.ret (.bool a.isNone))
    | .neq => some (.ret (.bool (!a.isNone)))
    | _ => none else none
  | .agg a, .agg b => match op with
    | .eql => (eqAgg P t a b).map fun r => .ret (.bool r)
    | .neq => (eqAgg P t a b).map fun r => .ret (.bool (!r))
    | _ => none
  | _, _ => none
def run1 (op : UnOp) (x : Value) : Option R :=
  match op, x with
  | .not, .bool b => some (.ret (.bool (!b)))
  | .neg, .int k n => some (.ret (.int k (k.wrap (0 - n))))
  | _, _ => none
def rmax : Value → List Value → Option Value
  | v, [] => some v
  | .int k x, .int _ y :: r => rmax (.int k (if y > x then y else x)) r
  | _, _ => none
def rmin : Value → List Value → Option Value
  | v, [] => some v
  | .int k x, .int _ y :: r => rmin (.int k (if y < x then y else x)) r
  | _, _ => none
def zeroT (P : Program) (t : TypeId) : Option Value := (P.info? t).bind (·.zero)
def bytesN (P : Program) (t : TypeId) : Nat := ((P.info? t).map (·.bytes)).getD 0
def keyT (P : Program) (t : TypeId) : Option TypeDesc := match P.underlying t with
  | some .bool => some .bool
  | some (.int k) => some (.int k)
  | some .string => some .string
  | _ => none
def rbuiltin (P : Program) (b : Builtin) (ts : List TypeId) (vs : List Value) : Option R :=
  match b with
  | .len => match ts, vs with
    | [t], [.slice _ n _] => bif isSliceT P t then some (.ret (.int .i64 (n : Nat))) else none
    | [t], [.map q] => bif isMapT P t then some (.lenm q) else none
    | [t], [.string b] => bif isStrT P t then some (.ret (.int .i64 (b.size : Nat))) else none
    | _, _ => none
  | .max => match vs with
    | v :: r => (rmax v r).map .ret
    | _ => none
  | .min => match vs with
    | v :: r => (rmin v r).map .ret
    | _ => none
  | .append => match ts, vs with
    | [t, u], [.slice a n c, .slice a' n' c'] => match P.underlying t with
      | some (.slice e) => bif isSliceT P u then match zeroT P e with
        | some z => bif (Nat.beq z.cells.size (cellsN P e) && Nat.ble 1 (cellsN P e)) then some (.app ⟨a, n, c⟩ ⟨a', n', c'⟩ e (cellsN P e) (bytesN P e) z.cells.toList) else none
        | none => none else none
      | _ => none
    | _, _ => none
  | .delete => match ts, vs with
    | [t, _], [.map q, k] => match P.underlying t with
      | some (.map kt _) => (keyT P kt).map fun d => .mdel q d k
      | _ => none
    | _, _ => none
  | _ => none
def placesT (P : Program) (fs : List Field) : List (Nat × Nat) := fs.map fun f => (f.offset, cellsN P f.type)
def rsv (P : Program) (E : Env) (o : Oper) : Option R :=
  match o.op with
  | .move x => (ev E x).map .ret
  | .assign x => (ev E x).map .ret
  | .pick c a b => match ev E c, ev E a, ev E b with
    | some (.bool c), some a, some b => some (.pick c a b)
    | _, _, _ => none
  | .alloc t => match zeroT P t with
    | some z => some (.new (.cells z.cells t) .ptr)
    | none => none
  | .box t x => (ev E x).map fun v => .new (.cells v.cells t) .ptr
  | .load t x => match ev E x with
    | some (.pointer (some a)) => match layT P t with
      | some (.one k) => bif isAggT P t then none else some (.ld a k)
      | some (.agg ks) => bif Nat.beq ks.length (cellsN P t) then some (.ldA a ks) else none
      | none => none
    | _ => none
  | .store t x y => match ev E x, ev E y with
    | some (.pointer (some a)), some v => match P.info? t with
      | some i => bif (Nat.beq v.cells.size i.size && v.cells.toList.all oneCell) then some (.st a v.cells.toList) else none
      | none => none
    | _, _ => none
  | .nilCheck x => match ev E x with
    | some (.pointer q) => some (.oa q)
    | some (.func (.func g) a b) => some (.ret (.func (.func g) a b))
    | _ => none
  | .binOp op t x y _ => match ev E x, ev E y with
    | some v, some u => rbin P op t v u
    | _, _ => none
  | .unOp op _ x => match ev E x with
    | some v => run1 op v
    | _ => none
  | .convert s d x => match P.underlying s, P.underlying d, ev E x with
    | some _, some (.int k), some (.int _ n) => some (.ret (.int k (k.wrap n)))
    | _, _, _ => none
  | .makeFunc fn first cap => match evs E first.toList, evs E cap.toList with
    | some f, some c => some (.ret (.func fn ⟨f⟩ ⟨c⟩))
    | _, _ => none
  | .makeMap _ none => some (.new (.map #[] 0) .map)
  | .makeSlice t l c => match P.underlying t, ev E l, ev E c with
    | some (.slice e), some (.int _ l), some (.int _ c) => match zeroT P e with
      | some z => bif (Nat.beq z.cells.size (cellsN P e) && Nat.ble 1 (cellsN P e)) then some (.mkSl l c z.cells.toList e (bytesN P e)) else none
      | none => none
    | _, _, _ => none
  | .slice t x lo hi mx => match P.underlying t, ev E x, evo E lo, evo E hi, evo E mx with
    | some (.slice e), some (.slice a n c), some l, some h, some m => match P.info? e with
      | some inf => bif (mx.isSome && !hi.isSome) then none else some (.slc ⟨a, n, c⟩ l h m inf.size)
      | none => none
    | _, _, _, _, _ => none
  | .fieldAddr s x i => match P.underlying s, ev E x with
    | some (.struct fs), some (.pointer (some a)) => match fs.toList[i]? with
      | some f => bif Nat.beq (cellsN P f.type) 0 then none else some (.ret (.pointer (some (a.add f.offset))))
      | none => none
    | _, _ => none
  | .field s x i => match P.underlying s, ev E x with
    | some (.struct fs), some (.agg cs) => match fs.toList[i]? with
      | some f => match P.underlying f.type with
        | some _ => (partV P f cs.toList).map .ret
        | none => none
      | none => none
    | _, _ => none
  | .indexAddr t x i => match P.underlying t, ev E x, ev E i with
    | some (.slice e), some (.slice a n c), some (.int _ i) => match P.info? e with
      | some inf => some (.ix ⟨a, n, c⟩ i inf.size)
      | none => none
    | some (.array n e), some (.pointer (some a)), some (.int _ i) => match P.info? e with
      | some inf => some (.chk (0 ≤ i ∧ i < (n : Nat)) (.pointer (some (a.add (i.toNat * inf.size)))))
      | none => none
    | _, _, _ => none
  | .lookup t x k ok => match P.underlying t, ev E x, ev E k with
    | some (.map kt et), some (.map q), some k => match keyT P kt, layT P et, zeroT P et with
      | some d, some l, some z => (getL l z).map fun z => .look q d k l z ok
      | _, _, _ => none
    | _, _, _ => none
  | .mapUpdate t m k x => match P.underlying t, ev E m, ev E k, ev E x with
    | some (.map kt _), some (.map q), some k, some v => (keyT P kt).map fun d => .mupd q d k v
    | _, _, _, _ => none
  | .insert t m k x => match P.underlying t, ev E m, ev E k, ev E x with
    | some (.map kt _), some (.map q), some k, some v => (keyT P kt).map fun d => .mupd q d k v
    | _, _, _, _ => none
  | .range t x => match P.underlying t, ev E x with
    | some (.map _ _), some (.map q) => some (.rng q)
    | _, _ => none
  | .next x false => match ev E x with
    | some (.pointer (some ⟨r, 0, _⟩)) => some (.nxt r)
    | _ => none
  | .entry x => match ev E x with
    | some (.pointer (some ⟨r, 0, _⟩)) => some (.ent r)
    | _ => none
  | .extract x i => match ev E x with
    | some (.tuple vs) => match vs.toList[i]?, layT P o.type with
      | some v, some l => some (.cast l v)
      | _, _ => none
    | _ => none
  | .build t ps => match P.underlying t, zeroT P t, evp E ps.toList with
    | some (.struct fs), some z, some vs => bif (fs.toList.all fun f => (P.info? f.type).isSome) then (Instr.fill (fun i => (placesT P fs.toList)[i]?) z.cells vs).map fun cs => .ret (.agg cs) else none
    | _, _, _ => none
  | .buildSlice t n ps => match P.underlying t, evp E ps.toList with
    | some (.slice e), some vs => match zeroT P e with
      | some z => bif (Nat.beq z.cells.size (cellsN P e) && Nat.ble 1 (cellsN P e) && Nat.ble (n * cellsN P e) 16777216) then
          (Instr.fill (fun i => some (i * cellsN P e, cellsN P e)) ⟨(List.replicate n z.cells.toList).flatten⟩ vs).map fun cs => .new (.cells cs e) (.sl n n)
          else none
      | none => none
    | _, _ => none
  | .call c => match c.callee, evs E c.args.toList with
    | .value (.func f), some vs => (layR P o.type).map fun r => .call f vs r
    | .value x, some vs => match ev E x with
      | some v => (layR P o.type).map fun r => .callv v vs r
      | none => none
    | .builtin b, some vs => rbuiltin P b c.argTypes.toList vs
    | _, _ => none
  | _ => none

def aop (P : Program) (E : Env) (h : V) (o : Oper) (K : Value → V → Prop) : Prop :=
  match rsv P E o with
  | some r => r.run P h K
  | none => False

/- the operations of a region, in an order; those of 'xs' make memory, and turn none that is known -/
def aopx (P : Program) (E : Env) (h : V) (o : Oper) (x : Bool) (K : Value → V → Prop) : Prop :=
  aop P E h o fun v h' => bif x then Le h h' ∧ K v h' else K v h'
def memN (n : Nat) : List Nat → Bool
  | [] => false
  | m :: l => bif Nat.beq m n then true else memN n l
def astep (P : Program) (ops : List Oper) (xs : List Nat) (i : Nat) (E : Env) (h : V) (C : Env → V → Prop) : Prop :=
  match ops[i]? with
  | none => False
  | some o =>
    let go (E : Env) : Prop := aopx P E h o (memN i xs) fun v h' => C (eput E o.dst v) h'
    let skip (E : Env) : Prop := C (eput E o.dst undef) h
    match o.guard with
    | none => go E
    | some (j, want) => match (ops[j]?).bind (·.dst) with
      | none => False
      | some d => match eget E d with
        | some (.bool b) => cond b (cond want (go ((d, .bool true) :: E)) (skip ((d, .bool true) :: E))) (cond want (skip ((d, .bool false) :: E)) (go ((d, .bool false) :: E)))
        | some (.tuple _) => skip E
        | _ => False
def aops (P : Program) (ops : List Oper) (xs : List Nat) : List Nat → Env → V → (Env → V → Prop) → Prop
  | [], E, h, K => K E h
  | i :: is, E, h, K => astep P ops xs i E h fun E' h' => aops P ops xs is E' h' K

/- an order of a region's operations that stands for all: what may be moved behind what -/
def clsP (o : Oper) : Bool := match o.op with
  | .move _ | .assign _ | .pick _ _ _ | .nilCheck _ | .binOp _ _ _ _ _ | .unOp _ _ _ | .convert _ _ _ | .makeFunc _ _ _ | .fieldAddr _ _ _ | .field _ _ _ | .indexAddr _ _ _ | .slice _ _ _ _ _ | .extract _ _ | .build _ _ => true
  | .call c => match c.callee with
    | .builtin .max => true
    | .builtin .min => true
    | _ => false
  | _ => false
def clsQ (o : Oper) : Bool := match o.op with
  | .load _ _ | .lookup _ _ _ _ | .entry _ => true
  | .call c => match c.callee with
    | .builtin .len => true
    | .builtin .max => true
    | .builtin .min => true
    | _ => false
  | _ => clsP o
def clsX (o : Oper) : Bool := match o.op with
  | .alloc _ | .box _ _ | .makeMap _ _ | .makeSlice _ _ _ | .buildSlice _ _ _ => true
  | _ => false
def tmpsOf : List Operand → List Nat
  | [] => []
  | .tmp t :: xs => t :: tmpsOf xs
  | _ :: xs => tmpsOf xs
def looks (ops : List Oper) (o : Oper) : List Nat :=
  tmpsOf o.op.operands.toList ++ (match o.guard with
    | some (j, _) => ((ops[j]?).bind (·.dst)).toList
    | none => [])
def apartO (ops : List Oper) (x y : Oper) : Bool :=
  (match x.dst with
   | some d => !(memN d (looks ops y)) && (match y.dst with
     | some e => !(Nat.beq d e)
     | none => true)
   | none => true) &&
  (match y.dst with
   | some d => !(memN d (looks ops x))
   | none => true)
/- y, at present behind x, may be moved ahead of it -/
def swapOk (ops : List Oper) (xs : List Nat) (i j : Nat) : Bool :=
  match ops[i]?, ops[j]? with
  | some x, some y => apartO ops x y && (clsQ x && (clsQ y || clsX y || memN j xs || clsP x) || clsX x && clsX y)
  | _, _ => false
def srcs (o : Oper) : List Nat := o.after.toList.filterMap fun e => match e.ground with
  | .textOnly _ => none
  | .gcOnly _ => none
  | _ => some e.on
def reachO (ops : List Oper) : Nat → Nat → Nat → Bool
  | 0, _, _ => false
  | n + 1, i, j => Nat.beq i j || (match ops[j]? with
    | some o => (srcs o).any fun k => reachO ops n i k
    | none => false)
def allPre (f : List Nat → Nat → Bool) : List Nat → List Nat → Bool
  | _, [] => true
  | pre, i :: l => f pre i && allPre f (pre ++ [i]) l
def nodupN : List Nat → Bool
  | [] => true
  | i :: l => !(memN i l) && nodupN l
def okPerm (ops : List Oper) (l xs : List Nat) : Bool :=
  Nat.beq l.length ops.length && nodupN l && l.all (fun i => Nat.blt i ops.length) && (List.range ops.length).all (fun i => memN i l) &&
  allPre (fun pre i => match ops[i]? with
    | some o => (srcs o).all (fun k => memN k pre) && pre.all fun j => swapOk ops xs j i || (srcs o).any fun k => reachO ops ops.length j k
    | none => false) [] l

/- annotations -/
inductive An where
  | nil
  | two (a b : An)
  | one (a : An)
  | cut (cs : List (Nat × Ly)) (a b : An)
  | loop (cs : List (Nat × Ly)) (a : An)
  | perm (l xs : List Nat)

def Code.wr : Code → List Nat
  | .region _ ops _ => ops.toList.filterMap (·.dst)
  | .seq a b => Code.wr a ++ Code.wr b
  | .cond _ a b => Code.wr a ++ Code.wr b
  | .block _ a => Code.wr a
  | .loop a => Code.wr a
  | .scope a => Code.wr a
  | _ => []
def keepE (ws : List Nat) : Env → Env
  | [] => []
  | (t, v) :: E => bif memN t ws then keepE ws E else (t, v) :: keepE ws E
@[reducible] def StT : List (Nat × Ly) → Type
  | [] => Unit
  | (_, l) :: cs => l.T × StT cs
def bindE : (cs : List (Nat × Ly)) → StT cs → Env
  | [], _ => []
  | (t, l) :: cs, s => (t, l.mk s.1) :: bindE cs s.2
def selE : (cs : List (Nat × Ly)) → Env → (StT cs → Prop) → Prop
  | [], _, f => f ()
  | (t, l) :: cs, E, f => match eget E t with
    | some v => unL l v fun x => selE cs E fun s => f (x, s)
    | none => False

def Wk (h : V) (K : V → Prop) : Prop := ∃ h', Le h' h ∧ K h'
def Cut {σ : Type} (R : σ → V → Prop) (A : (σ → V → Prop) → Prop) : Prop := A R
def LpN {σ : Type} (step : (σ → V → Prop) → σ → V → Prop) : Nat → σ → V → Prop
  | 0 => fun _ _ => False
  | n + 1 => step (LpN step n)
def Lp {σ : Type} (step : (σ → V → Prop) → σ → V → Prop) (s : σ) (h : V) : Prop := ∃ n, LpN step n s h

def thenN (K : Env → V → Prop) (Q : Exit → Env → V → Prop) : Exit → Env → V → Prop
  | .normal, E, h => K E h
  | e, E, h => Q e E h
def inBlockN (id : Nat) (Q : Exit → Env → V → Prop) : Exit → Env → V → Prop
  | .exit id', E, h => bif Nat.beq id' id then Q .normal E h else Q (.exit id') E h
  | e, E, h => Q e E h

def awp (P : Program) : An → Code → (Exit → Env → V → Prop) → Env → V → Prop
  | _, .skip, Q, E, h => Q .normal E h
  | _, .label _, Q, E, h => Q .normal E h
  | _, .ret, Q, E, h => Q .ret E h
  | _, .exit id, Q, E, h => Q (.exit id) E h
  | .two x y, .seq a b, Q, E, h => awp P x a (thenN (awp P y b Q) Q) E h
  | .cut cs x y, .seq a b, Q, E, h =>
    Cut (fun s h' => awp P y b Q (bindE cs s ++ keepE (Code.wr a) E) h')
      (fun K => awp P x a (thenN (fun E' h' => selE cs E' fun s => Wk h' fun h'' => K s h'') Q) E h)
  | .two x y, .cond c a b, Q, E, h => match ev E c with
    | some (.bool t) => cond t (awp P x a Q E h) (awp P y b Q E h)
    | _ => False
  | .one x, .block id a, Q, E, h => awp P x a (inBlockN id Q) E h
  | .loop cs x, .loop a, Q, E, h =>
    selE cs E fun s => Lp (fun K s h' => awp P x a (thenN (fun E' h' => selE cs E' fun s' => Wk h' fun h'' => K s' h'') Q) (bindE cs s ++ keepE (Code.wr a) E) h') s h
  | .nil, .region _ ops false, Q, E, h => aops P ops.toList [] (List.range ops.size) E h (Q .normal)
  | .perm l xs, .region _ ops true, Q, E, h => bif okPerm ops.toList l xs then aops P ops.toList xs l E h (Q .normal) else False
  | _, _, _, _, _ => False

def enumE : Nat → List Value → Env
  | _, [] => []
  | i, v :: vs => (i, v) :: enumE (i + 1) vs
def resE (P : Program) (E : Env) (h : V) : List ResultVar → (List Value → Prop) → Prop
  | [], f => f []
  | .tmp t :: rs, f => match eget E t with
    | some v => resE P E h rs fun vs => f (v :: vs)
    | none => False
  | .cell a t :: rs, f => match eget E a with
    | some (.pointer (some a)) => match layT P t with
      | some (.one k) => bif isAggT P t then False else Ld h a k fun x => resE P E h rs fun vs => f (k.mk x :: vs)
      | some (.agg ks) => bif Nat.beq ks.length (cellsN P t) then LdA h a ks fun s => resE P E h rs fun vs => f (.agg ⟨mks ks s⟩ :: vs) else False
      | none => False
    | _ => False
def oneV : List Value → Value
  | [v] => v
  | vs => .tuple ⟨vs⟩
def bodyQ (P : Program) (rs : List ResultVar) (R : Value → V → Prop) : Exit → Env → V → Prop
  | .normal, E, h => resE P E h rs fun vs => Wk h fun h' => R (oneV vs) h'
  | .ret, E, h => resE P E h rs fun vs => Wk h fun h' => R (oneV vs) h'
  | _, _, _ => False
def ABody (P : Program) (an : An) (fn : Func) (args : List Value) (h : V) (R : Value → V → Prop) : Prop :=
  match fn.body with
  | some c => awp P an c (bodyQ P fn.results.toList R) (enumE 0 args) h
  | none => False

end Go.VL
