/- The program's data as views have them: blocks, functions, programs. -/
import Derived.Test.YtaefmhephoilmaaVlib
namespace Go.VL
open Go

structure EdgeD where
  to : Int
  args : List Int
structure EndD where
  kind : Int
  val : Int
  ways : List EdgeD
  trap : Int
structure InsD where
  op : Int
  dst : Int
  args : List Int
  num : Int
  bin : Int
  arr : Int
  fn : Int
structure BlockD where
  params : List Int
  ins : List InsD
  e : EndD
structure FuncD where
  name : ByteArray
  blocks : List BlockD
structure ArrD where
  name : ByteArray
  hold : Int
  size : Int
structure ProgD where
  arrays : List ArrD
  funcs : List FuncD
  main : Int

abbrev iV (n : Int) : Value := .int .i64 n
abbrev sV (s : Sl) : Value := .slice s.a s.n s.c
abbrev isInts := isSl repInt 1
abbrev edgeV (e : EdgeD) (s : Sl) : List Value := [iV e.to, sV s]
def repEdge (h : V) (a : Addr) (e : EdgeD) : Prop := ∃ s, isInts h s e.args ∧ cellsAt h a 0 (edgeV e s)
abbrev isEdges := isSl repEdge 2
abbrev insV (i : InsD) (s : Sl) : List Value := [iV i.op, iV i.dst, sV s, iV i.num, iV i.bin, iV i.arr, iV i.fn]
def repIns (h : V) (a : Addr) (i : InsD) : Prop := ∃ s, isInts h s i.args ∧ cellsAt h a 0 (insV i s)
abbrev isInss := isSl repIns 7
abbrev blockV (b : BlockD) (p i w : Sl) : List Value := [sV p, sV i, iV b.e.kind, iV b.e.val, sV w, iV b.e.trap]
def repBlock (h : V) (a : Addr) (b : BlockD) : Prop := ∃ p i w, isInts h p b.params ∧ isInss h i b.ins ∧ isEdges h w b.e.ways ∧ cellsAt h a 0 (blockV b p i w)
abbrev isBlocks := isSl repBlock 6
abbrev funcV (f : FuncD) (s : Sl) : List Value := [.string f.name, sV s]
def repFunc (h : V) (a : Addr) (f : FuncD) : Prop := ∃ s, isBlocks h s f.blocks ∧ cellsAt h a 0 (funcV f s)
abbrev isFuncs := isSl repFunc 2
abbrev arrV (a : ArrD) : List Value := [.string a.name, iV a.hold, iV a.size]
def repArr (h : V) (a : Addr) (x : ArrD) : Prop := cellsAt h a 0 (arrV x)
abbrev isArrs := isSl repArr 3

theorem mono_edge : Mono repEdge := fun _ _ _ _ l ⟨s, h1, h2⟩ => ⟨s, h1.le mono_int l, cellsAt_le l h2⟩
theorem mono_ins : Mono repIns := fun _ _ _ _ l ⟨s, h1, h2⟩ => ⟨s, h1.le mono_int l, cellsAt_le l h2⟩
theorem mono_block : Mono repBlock := fun _ _ _ _ l ⟨p, i, w, h1, h2, h3, h4⟩ => ⟨p, i, w, h1.le mono_int l, h2.le mono_ins l, h3.le mono_edge l, cellsAt_le l h4⟩
theorem mono_func : Mono repFunc := fun _ _ _ _ l ⟨s, h1, h2⟩ => ⟨s, h1.le mono_block l, cellsAt_le l h2⟩
theorem mono_arr : Mono repArr := fun _ _ _ _ l h => cellsAt_le l h

def FuncD.params (f : FuncD) : List Int := match f.blocks with
  | [] => []
  | b :: _ => b.params

section
variable {h0 h : V} {s : Sl} {k : Nat} {T : TypeId} {zs : List Value}
theorem elem_block {bs : List BlockD} {F : Tys [.sl, .sl, .int .i64, .int .i64, .sl, .int .i64] → List Value} {K : Tys [.sl, .sl, .int .i64, .int .i64, .sl, .int .i64] → Nat → V → Prop} (hs : isBlocks h0 s bs) (l : Le h0 h) (hk : k < bs.length) (hz : zs.length = 6) (hF : F = mks _)
    (hb : ∀ p i w, isInts h0 p bs[k].params → isInss h0 i bs[k].ins → isEdges h0 w bs[k].e.ways → ∀ r h', Le h0 h' → Le h h' → h r = none → Box h' r (blockV bs[k] p i w) T → K (p, i, bs[k].e.kind, bs[k].e.val, w, bs[k].e.trap, ()) r h') :
    Ix s (k : Int) 6 fun a => LdA h a [.sl, .sl, .int .i64, .int .i64, .sl, .int .i64] fun x => New h (.cells ⟨zs⟩ T) fun r h1 => StL h1 ⟨r, 0, none⟩ 0 (F x) (K x r) :=
  elem_box hs l hk hz hF fun _ ⟨p, i, w, h1, h2, h3, hc⟩ => ⟨(p, i, bs[k].e.kind, bs[k].e.val, w, bs[k].e.trap, ()), hc, fun r h' l' hr b => hb p i w h1 h2 h3 r h' (l.trans l') l' hr b⟩
theorem elem_ins {bs : List InsD} {F : Tys [.int .i64, .int .i64, .sl, .int .i64, .int .i64, .int .i64, .int .i64] → List Value} {K : Tys [.int .i64, .int .i64, .sl, .int .i64, .int .i64, .int .i64, .int .i64] → Nat → V → Prop} (hs : isInss h0 s bs) (l : Le h0 h) (hk : k < bs.length) (hz : zs.length = 7) (hF : F = mks _)
    (hb : ∀ p, isInts h0 p bs[k].args → ∀ r h', Le h0 h' → Le h h' → h r = none → Box h' r (insV bs[k] p) T → K (bs[k].op, bs[k].dst, p, bs[k].num, bs[k].bin, bs[k].arr, bs[k].fn, ()) r h') :
    Ix s (k : Int) 7 fun a => LdA h a [.int .i64, .int .i64, .sl, .int .i64, .int .i64, .int .i64, .int .i64] fun x => New h (.cells ⟨zs⟩ T) fun r h1 => StL h1 ⟨r, 0, none⟩ 0 (F x) (K x r) :=
  elem_box hs l hk hz hF fun _ ⟨p, h1, hc⟩ => ⟨(bs[k].op, bs[k].dst, p, bs[k].num, bs[k].bin, bs[k].arr, bs[k].fn, ()), hc, fun r h' l' hr b => hb p h1 r h' (l.trans l') l' hr b⟩
theorem elem_edge {bs : List EdgeD} {F : Tys [.int .i64, .sl] → List Value} {K : Tys [.int .i64, .sl] → Nat → V → Prop} (hs : isEdges h0 s bs) (l : Le h0 h) (hk : k < bs.length) (hz : zs.length = 2) (hF : F = mks _)
    (hb : ∀ p, isInts h0 p bs[k].args → ∀ r h', Le h0 h' → Le h h' → h r = none → Box h' r (edgeV bs[k] p) T → K (bs[k].to, p, ()) r h') :
    Ix s (k : Int) 2 fun a => LdA h a [.int .i64, .sl] fun x => New h (.cells ⟨zs⟩ T) fun r h1 => StL h1 ⟨r, 0, none⟩ 0 (F x) (K x r) :=
  elem_box hs l hk hz hF fun _ ⟨p, h1, hc⟩ => ⟨(bs[k].to, p, ()), hc, fun r h' l' hr b => hb p h1 r h' (l.trans l') l' hr b⟩
theorem elem_func {bs : List FuncD} {F : Tys [.str, .sl] → List Value} {K : Tys [.str, .sl] → Nat → V → Prop} (hs : isFuncs h0 s bs) (l : Le h0 h) (hk : k < bs.length) (hz : zs.length = 2) (hF : F = mks _)
    (hb : ∀ p, isBlocks h0 p bs[k].blocks → ∀ r h', Le h0 h' → Le h h' → h r = none → Box h' r (funcV bs[k] p) T → K (bs[k].name, p, ()) r h') :
    Ix s (k : Int) 2 fun a => LdA h a [.str, .sl] fun x => New h (.cells ⟨zs⟩ T) fun r h1 => StL h1 ⟨r, 0, none⟩ 0 (F x) (K x r) :=
  elem_box hs l hk hz hF fun _ ⟨p, h1, hc⟩ => ⟨(bs[k].name, p, ()), hc, fun r h' l' hr b => hb p h1 r h' (l.trans l') l' hr b⟩
theorem elem_arr {bs : List ArrD} {F : Tys [.str, .int .i64, .int .i64] → List Value} {K : Tys [.str, .int .i64, .int .i64] → Nat → V → Prop} (hs : isArrs h0 s bs) (l : Le h0 h) (hk : k < bs.length) (hz : zs.length = 3) (hF : F = mks _)
    (hb : ∀ r h', Le h0 h' → Le h h' → h r = none → Box h' r (arrV bs[k]) T → K (bs[k].name, bs[k].hold, bs[k].size, ()) r h') :
    Ix s (k : Int) 3 fun a => LdA h a [.str, .int .i64, .int .i64] fun x => New h (.cells ⟨zs⟩ T) fun r h1 => StL h1 ⟨r, 0, none⟩ 0 (F x) (K x r) :=
  elem_box hs l hk hz hF fun _ hc => ⟨(bs[k].name, bs[k].hold, bs[k].size, ()), hc, fun r h' l' hr b => hb r h' (l.trans l') l' hr b⟩
end
end Go.VL
