/- Views of memory, and what code does to them: definitions. -/
import Derived.Tactics
import Derived.Laws.Entries
namespace Go.VL
open Go

abbrev V := Nat → Option Obj
def V.upd (h : V) (r : Nat) (o : Obj) : V := fun b => if b = r then some o else h b
def Le (h h' : V) : Prop := ∀ b o, h b = some o → h' b = some o
def Sees (w : World) (h : V) : Prop := ∀ b o, h b = some o → w.heap[b]? = some o
structure Kept (w w' : World) : Prop where
  os : w'.os = w.os
  tape : w'.tape = w.tape
  output : w'.output = w.output

def cellq (h : V) (a : Addr) : Option Value :=
  match h a.block with
  | some (.cells c _ _) => if a.spot.isSome then none else c[a.off]?
  | _ => none

structure Sl where
  a : Option Addr
  n : Nat
  c : Nat

inductive Kd where
  | int (k : IntKind) | bool | str | ptr | sl | mp | raw
@[reducible] def Kd.T : Kd → Type
  | .int _ => Int | .bool => Bool | .str => ByteArray | .ptr => Option Addr | .sl => Sl | .mp => Option Nat | .raw => Value
@[reducible] def Kd.mk : (k : Kd) → k.T → Value
  | .int k, n => .int k n | .bool, b => .bool b | .str, s => .string s | .ptr, a => .pointer a | .sl, s => .slice s.a s.n s.c | .mp, r => .map r | .raw, v => v
@[reducible] def Tys : List Kd → Type
  | [] => Unit
  | k :: ks => k.T × Tys ks
@[reducible] def mks : (ks : List Kd) → Tys ks → List Value
  | [], _ => []
  | k :: ks, s => k.mk s.1 :: mks ks s.2
inductive Ly where
  | one (k : Kd) | agg (ks : List Kd)
@[reducible] def Ly.T : Ly → Type
  | .one k => k.T | .agg ks => Tys ks
@[reducible] def Ly.mk : (l : Ly) → l.T → Value
  | .one k, x => k.mk x
  | .agg ks, s => .agg ⟨mks ks s⟩
inductive Rs where
  | un (l : Ly) | tup (ls : List Ly)
@[reducible] def TysL : List Ly → Type
  | [] => Unit
  | k :: ks => k.T × TysL ks
@[reducible] def mksL : (ks : List Ly) → TysL ks → List Value
  | [], _ => []
  | k :: ks, s => k.mk s.1 :: mksL ks s.2
@[reducible] def Rs.T : Rs → Type
  | .un l => l.T | .tup ls => TysL ls
@[reducible] def Rs.mk : (l : Rs) → l.T → Value
  | .un l, x => l.mk x
  | .tup ls, s => .tuple ⟨mksL ls s⟩

/- kinds of a type's cells -/
def kinds (P : Program) : Nat → TypeId → List Kd
  | 0, _ => []
  | n + 1, t => match P.underlying t with
    | some .bool => [.bool]
    | some (.int k) => [.int k]
    | some .string => [.str]
    | some (.pointer _) => [.ptr]
    | some (.slice _) => [.sl]
    | some (.map _ _) => [.mp]
    | some (.func _ _ _) => [.raw]
    | some (.struct fs) => fs.toList.flatMap fun f => kinds P n f.type
    | some (.array m e) => (List.replicate m (kinds P n e)).flatten
    | _ => []
def sizeT (P : Program) (t : TypeId) : Option Nat := (P.info? t).map (·.size)
def layT (P : Program) (t : TypeId) : Option Ly :=
  match P.underlying t with
  | some (.struct _) | some (.array _ _) => some (.agg (kinds P 9 t))
  | some (.tuple _) => none
  | some _ => match kinds P 9 t with
    | [k] => some (.one k)
    | _ => none
  | none => none
def layR (P : Program) (t : TypeId) : Option Rs :=
  match P.underlying t with
  | some (.tuple ts) => (ts.toList.mapM (layT P)).map .tup
  | _ => (layT P t).map .un

/- environments: slots that are known -/
abbrev Env := List (Nat × Value)
def eget : Env → Nat → Option Value
  | [], _ => none
  | (t, v) :: E, s => bif Nat.beq t s then some v else eget E s
def ev (E : Env) : Operand → Option Value
  | .tmp t => eget E t
  | .const v => some v
  | .global g => some (.pointer (some ⟨g, 0, none⟩))
  | .func f => some (.func (.func f) #[] #[])
def eput (E : Env) : Option Tmp → Value → Env
  | some d, v => (d, v) :: E
  | none, _ => E

/- a value of a kind -/
def unK : (k : Kd) → Value → (k.T → Prop) → Prop
  | .int k, .int k' n, f => match decEq k' k with
    | .isTrue _ => f n
    | .isFalse _ => False
  | .bool, .bool b, f => f b
  | .str, .string s, f => f s
  | .ptr, .pointer a, f => f a
  | .sl, .slice a n c, f => f ⟨a, n, c⟩
  | .mp, .map r, f => f r
  | .raw, v, f => f v
  | _, _, _ => False
def unKs : (ks : List Kd) → List Value → (Tys ks → Prop) → Prop
  | [], [], f => f ()
  | k :: ks, v :: vs, f => unK k v fun x => unKs ks vs fun s => f (x, s)
  | _, _, _ => False
def unL : (l : Ly) → Value → (l.T → Prop) → Prop
  | .one k, v, f => unK k v f
  | .agg ks, .agg cs, f => unKs ks cs.toList f
  | .agg _, _, _ => False

/- a call, as a view sees it -/
def ACalls (P : Program) (f : FuncId) (args : List Value) (h : V) (R : Value → V → Prop) : Prop :=
  (∀ args w, (callFunc f args).run P w = .ok (.enter f args) w) ∧
  ∀ w, Sees w h → Calls P f ⟨args⟩ w fun e w' => Kept w w' ∧ ∃ v h', e = .returned v ∧ Sees w' h' ∧ R v h'
def CallK (P : Program) (f : FuncId) (args : List Value) (h : V) (r : Rs) (K : r.T → V → Prop) : Prop :=
  ACalls P f args h fun v h' => ∃ x, v = r.mk x ∧ K x h'
def CallV (P : Program) (f : Value) (args : List Value) (h : V) (r : Rs) (K : r.T → V → Prop) : Prop :=
  match f with
  | .func (.func g) first cap => CallK P g (first.toList ++ args ++ cap.toList) h r K
  | _ => False
/- what operations do -/
def Ld (h : V) (a : Addr) (k : Kd) (K : k.T → Prop) : Prop := ∃ x, cellq h a = some (k.mk x) ∧ K x
def cellsAt (h : V) (a : Addr) : Nat → List Value → Prop
  | _, [] => True
  | i, v :: vs => cellq h (a.add i) = some v ∧ cellsAt h a (i + 1) vs
def LdA (h : V) (a : Addr) (ks : List Kd) (K : Tys ks → Prop) : Prop := ∃ s, cellsAt h a 0 (mks ks s) ∧ K s
def oneCell : Value → Bool
  | .agg _ => false
  | .tuple _ => false
  | _ => true
def setc (h : V) (a : Addr) (v : Value) : V := fun b => if b = a.block then
    match h b with
    | some (.cells c e f) => some (.cells (c.setIfInBounds a.off v) e f)
    | o => o else h b
def canSet (h : V) (a : Addr) : Prop := ∃ c e lo hi, h a.block = some (.cells c e (lo, hi)) ∧ a.spot = none ∧ a.off < c.size ∧ ¬(lo ≤ a.off ∧ a.off < hi)
def St (h : V) (a : Addr) (v : Value) (K : V → Prop) : Prop := canSet h a ∧ K (setc h a v)
def StL (h : V) (a : Addr) : Nat → List Value → (V → Prop) → Prop
  | _, [], K => K h
  | i, v :: vs, K => St h (a.add i) v fun h' => StL h' a (i + 1) vs K
def New (h : V) (o : Obj) (K : Nat → V → Prop) : Prop := ∀ r, h r = none → K r (h.upd r o)
def OA (q : Option Addr) (K : Addr → Prop) : Prop :=
  match q with
  | some a => K a
  | none => False
def Ix (s : Sl) (i : Int) (sz : Nat) (K : Addr → Prop) : Prop := ∃ a, s.a = some a ∧ 0 ≤ i ∧ i < s.n ∧ K (a.add (i.toNat * sz))

inductive Mk where
  | ptr | map | sl (n c : Nat)
@[reducible] def Mk.val : Mk → Nat → Value
  | .ptr, r => .pointer (some ⟨r, 0, none⟩)
  | .map, r => .map (some r)
  | .sl n c, r => .slice (some ⟨r, 0, none⟩) n c


def LenM (h : V) (q : Option Nat) (K : Int → Prop) : Prop :=
  match q with
  | none => K 0
  | some r => ∃ es clk, h r = some (.map es clk) ∧ K (es.size : Nat)
def Look (h : V) (q : Option Nat) (d : TypeDesc) (key : Value) (l : Ly) (zero : l.T) (K : l.T → Bool → Prop) : Prop :=
  match q with
  | none => K zero false
  | some r => ∃ es clk, h r = some (.map es clk) ∧
      ((∃ i x, Instr.findNow d key es.toList 0 = some (some (i, l.mk x)) ∧ K x true) ∨ (Instr.findNow d key es.toList 0 = some none ∧ K zero false))
def MUpd (h : V) (q : Option Nat) (d : TypeDesc) (key val : Value) (K : V → Prop) : Prop :=
  ∃ r es clk, q = some r ∧ h r = some (.map es clk) ∧
    ((∃ i x, Instr.findNow d key es.toList 0 = some (some (i, x)) ∧ K (h.upd r (.map (es.modify i fun e => { e with key := key, val := val }) clk))) ∨
     (Instr.findNow d key es.toList 0 = some none ∧ K (h.upd r (.map (es.push { key := key, val := val, born := clk }) (clk + 1)))))
def MDel (h : V) (q : Option Nat) (d : TypeDesc) (key : Value) (K : V → Prop) : Prop :=
  match q with
  | none => K h
  | some r => ∃ es clk, h r = some (.map es clk) ∧
    ((∃ i x, Instr.findNow d key es.toList 0 = some (some (i, x)) ∧ K (h.upd r (.map (es.eraseIdxIfInBounds i) clk))) ∨
     (Instr.findNow d key es.toList 0 = some none ∧ K (h.upd r (.map es clk))))
def Rng (h : V) (q : Option Nat) (K : Nat → V → Prop) : Prop :=
  match q with
  | none => New h (.mapIter none 0 #[] 0) K
  | some r => ∃ es clk, h r = some (.map es clk) ∧ New h (.mapIter (some r) clk #[] clk) K
def Nxt (h : V) (r : Nat) (Kt : Value → Value → V → Prop) (Kf : Prop) : Prop :=
  (∃ a b c, h r = some (.mapIter none a b c) ∧ Kf) ∨
  ∃ m since seen last es clk, h r = some (.mapIter (some m) since seen last) ∧ h m = some (.map es clk) ∧
    (seen ≠ #[] → es ≠ #[] → ∃ e ∈ es, e.born < last) ∧
    (∀ e ∈ es, ¬ e.born ∈ seen → Kt e.key e.val (h.upd r (.mapIter (some m) since (seen.push e.born) clk))) ∧
    ((∀ e ∈ es, e.born < since → e.born ∈ seen) → Kf)
def Ent (h : V) (r : Nat) (K : Value → Value → Prop) : Prop :=
  ∃ m since seen b clk es e, h r = some (.mapIter (some m) since seen clk) ∧ seen.back? = some b ∧ h m = some (.map es clk) ∧
    es.find? (·.born == b) = some e ∧ K e.key e.val
def MkSl (h : V) (n c : Int) (zero : List Value) (elem : TypeId) (bytes : Nat) (K : Sl → V → Prop) : Prop :=
  0 ≤ n ∧ n ≤ c ∧ bytes * c ≤ 281474976710656 ∧ c ≤ 9223372036854775807 ∧
    ∀ r, h r = none → K ⟨some ⟨r, 0, none⟩, n.toNat, c.toNat⟩ (h.upd r (.cells ⟨(List.replicate c.toNat zero).flatten⟩ elem))
def Slc (s : Sl) (lo hi mx : Option Int) (sz : Nat) (K : Sl → Prop) : Prop :=
  let m := mx.getD s.c
  let h := hi.getD s.n
  let l := lo.getD 0
  0 ≤ l ∧ l ≤ h ∧ h ≤ m ∧ m ≤ s.c ∧ K ⟨if m.toNat = l.toNat then s.a else s.a.map (·.add (l.toNat * sz)), h.toNat - l.toNat, m.toNat - l.toNat⟩
/- the cells of a slice's elements -/
def slCells (h : V) (s : Sl) (sz : Nat) (vs : List Value) : Prop :=
  vs.length = s.n * sz ∧ ∀ a, s.a = some a → cellsAt h a 0 vs
def App (h : V) (s x : Sl) (elem : TypeId) (sz bytes : Nat) (zero : List Value) (K : Sl → V → Prop) : Prop :=
  ∃ xs, (x.a = none → x.n = 0) ∧ slCells h x sz xs ∧ xs.all oneCell = true ∧
    (s.n + x.n ≤ s.c → (s.a = none → x.n = 0) ∧ (∀ a, s.a = some a → StL h (a.add (s.n * sz)) 0 xs fun h' => K ⟨s.a, s.n + x.n, s.c⟩ h') ∧ (s.a = none → K ⟨s.a, s.n + x.n, s.c⟩ h)) ∧
    (s.c < s.n + x.n → (s.n + x.n) * bytes ≤ 140737488355328 ∧ 0 < bytes ∧ ∃ ss, (s.a = none → s.n = 0) ∧ slCells h s sz ss ∧
      ∀ r c, h r = none → s.n + x.n ≤ c → K ⟨some ⟨r, 0, none⟩, s.n + x.n, c⟩ (h.upd r (.cells ⟨ss ++ xs ++ (List.replicate (c - (s.n + x.n)) zero).flatten⟩ elem)))

/- a resolved operation -/
inductive R where
  | ret (v : Value)
  | chk (p : Prop) (v : Value)
  | pick (c : Bool) (a b : Value)
  | new (o : Obj) (m : Mk)
  | oa (q : Option Addr)
  | ld (a : Addr) (k : Kd)
  | ldA (a : Addr) (ks : List Kd)
  | st (a : Addr) (vs : List Value)
  | ix (s : Sl) (i : Int) (sz : Nat)
  | cast (l : Ly) (v : Value)
  | call (f : FuncId) (args : List Value) (r : Rs)
  | callv (f : Value) (args : List Value) (r : Rs)
  | lenm (q : Option Nat)
  | look (q : Option Nat) (d : TypeDesc) (key : Value) (l : Ly) (zero : l.T) (ok : Bool)
  | mupd (q : Option Nat) (d : TypeDesc) (key val : Value)
  | mdel (q : Option Nat) (d : TypeDesc) (key : Value)
  | mkSl (n c : Int) (zero : List Value) (elem : TypeId) (bytes : Nat)
  | slc (s : Sl) (lo hi mx : Option Int) (sz : Nat)
  | app (s : Sl) (x : Sl) (elem : TypeId) (sz bytes : Nat) (zero : List Value)
  | rng (q : Option Nat)
  | nxt (r : Nat)
  | ent (r : Nat)

def R.run (P : Program) (h : V) : R → (Value → V → Prop) → Prop
  | .ret v, K => K v h
  | .chk p v, K => p ∧ K v h
  | .pick c a b, K => cond c (K a h) (K b h)
  | .new o m, K => New h o fun r h' => K (m.val r) h'
  | .oa q, K => OA q fun a => K (.pointer (some a)) h
  | .ld a k, K => Ld h a k fun x => K (k.mk x) h
  | .ldA a ks, K => LdA h a ks fun s => K (.agg ⟨mks ks s⟩) h
  | .st a vs, K => StL h a 0 vs fun h' => K undef h'
  | .ix s i sz, K => Ix s i sz fun a => K (.pointer (some a)) h
  | .cast l v, K => unL l v fun x => K (l.mk x) h
  | .call f args r, K => CallK P f args h r fun x h' => K (r.mk x) h'
  | .callv f args r, K => CallV P f args h r fun x h' => K (r.mk x) h'
  | .lenm q, K => LenM h q fun n => K (.int .i64 n) h
  | .look q d key l zero ok, K => Look h q d key l zero fun x b => K (bif ok then .tuple #[l.mk x, .bool b] else l.mk x) h
  | .mupd q d key val, K => MUpd h q d key val fun h' => K undef h'
  | .mdel q d key, K => MDel h q d key fun h' => K (.tuple #[]) h'
  | .mkSl n c zero elem bytes, K => MkSl h n c zero elem bytes fun s h' => K (.slice s.a s.n s.c) h'
  | .slc s lo hi mx sz, K => Slc s lo hi mx sz fun s' => K (.slice s'.a s'.n s'.c) h
  | .app s x elem sz bytes zero, K => App h s x elem sz bytes zero fun s' h' => K (.slice s'.a s'.n s'.c) h'
  | .rng q, K => Rng h q fun r h' => K (.pointer (some ⟨r, 0, none⟩)) h'
  | .nxt r, K => Nxt h r (fun k v h' => K (.tuple #[.bool true, k, v]) h') (K (.tuple #[.bool false]) h)
  | .ent r, K => Ent h r fun k v => K (.tuple #[k, v]) h

end Go.VL
