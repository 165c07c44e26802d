/- Words for views: blocks, slices, loops, maps. -/
import Derived.Test.YtaefmhephoilmaaZTaintLeast1
import Derived.Deep.Slices
import Derived.OpenShut
import Derived.ChangeSame
import Derived.Below
import Derived.Test.YtaefmhephoilmaaProg
import Derived.KernelRfl
namespace Go.VL
open Go

theorem Addr.add_add (a : Addr) (i j : Nat) : (a.add i).add j = a.add (i + j) := by
  unfold Addr.add
  by_cases hi : i = 0 <;> by_cases hj : j = 0 <;> simp [hi, hj, Nat.add_assoc]
theorem Addr.add_z (a : Addr) : a.add 0 = a := by simp [Addr.add]
theorem Addr.blk (a : Addr) (n : Nat) : (a.add n).block = a.block := by unfold Addr.add; split <;> rfl
theorem w64 {x : Int} (h1 : -9223372036854775808 ≤ x) (h2 : x ≤ 9223372036854775807) : IntKind.wrap .i64 x = x := by
  unfold IntKind.wrap; simp [IntKind.bits, IntKind.signed]; omega

/- growing views -/
theorem Le.upd {h0 h : V} (l : Le h0 h) {r : Nat} (hr : h0 r = none) (o : Obj) : Le h0 (h.upd r o) := by
  intro b x hb
  unfold V.upd
  have : b ≠ r := fun e => by subst e; rw [hr] at hb; cases hb
  rw [if_neg this]; exact l _ _ hb
theorem Le.nil {h0 h : V} (l : Le h0 h) {r : Nat} (hr : h r = none) : h0 r = none := by
  cases hx : h0 r with
  | none => rfl
  | some o => rw [l _ _ hx] at hr; cases hr
theorem Le.setc {h0 h : V} (l : Le h0 h) {a : Addr} (hr : h0 a.block = none) (v : Value) : Le h0 (setc h a v) := by
  intro b x hb
  unfold VL.setc
  have : b ≠ a.block := fun e => by subst e; rw [hr] at hb; cases hb
  rw [if_neg this]; exact l _ _ hb
theorem upd_self (h : V) (r : Nat) (o : Obj) : (h.upd r o) r = some o := by simp [V.upd]
theorem upd_ne {h : V} {r b : Nat} (hne : b ≠ r) (o : Obj) : (h.upd r o) b = h b := by simp [V.upd, hne]
theorem setc_ne {h : V} {a : Addr} {b : Nat} (hne : b ≠ a.block) (v : Value) : setc h a v b = h b := by simp [VL.setc, hne]
theorem setc_self {h : V} {a : Addr} {c : Array Value} {e : TypeId} {f : Nat × Nat} (hb : h a.block = some (.cells c e f)) (v : Value) : setc h a v a.block = some (.cells (c.setIfInBounds a.off v) e f) := by
  simp [VL.setc, hb]

/- a new block, known by its cells -/
def Box (h : V) (r : Nat) (cs : List Value) (t : TypeId) : Prop := h r = some (.cells ⟨cs⟩ t)
theorem New_box {h : V} {cs : List Value} {t : TypeId} {K : Nat → V → Prop} (hk : ∀ r h', h r = none → Le h h' → Box h' r cs t → K r h') : New h (.cells ⟨cs⟩ t) K :=
  fun r hr => hk r _ hr (le_upd hr _) (upd_self _ _ _)
theorem Box.cell {h : V} {r : Nat} {cs : List Value} {t : TypeId} (b : Box h r cs t) {i : Nat} {v : Value} (hv : cs[i]? = some v) : cellq h (Addr.add ⟨r, 0, none⟩ i) = some v := by
  have e : Addr.add ⟨r, 0, none⟩ i = ⟨r, i, none⟩ := by unfold Addr.add; split <;> simp_all
  rw [e]
  unfold Box at b
  simp [cellq, b, hv]
theorem Box.cell0 {h : V} {r : Nat} {v : Value} {cs : List Value} {t : TypeId} (b : Box h r (v :: cs) t) : cellq h ⟨r, 0, none⟩ = some v := by
  have := b.cell (i := 0) (v := v) rfl
  rwa [Addr.add_z] at this
theorem Box.le {h h' : V} {r : Nat} {cs : List Value} {t : TypeId} (b : Box h r cs t) (l : Le h h') : Box h' r cs t := l _ _ b
theorem cellsAt_of {h : V} {a : Addr} : ∀ {vs : List Value} {i : Nat}, (∀ j v, vs[j]? = some v → cellq h (a.add (i + j)) = some v) → cellsAt h a i vs
  | [], _, _ => trivial
  | v :: vs, i, hc => ⟨hc 0 v rfl, cellsAt_of fun j u hu => by have := hc (j + 1) u (by simpa using hu); rwa [show i + (j + 1) = i + 1 + j by omega] at this⟩
theorem Box.cells {h : V} {r : Nat} {cs : List Value} {t : TypeId} (b : Box h r cs t) : cellsAt h ⟨r, 0, none⟩ 0 cs :=
  cellsAt_of fun j v hv => by rw [Nat.zero_add]; exact b.cell hv
/- all cells of a box stored at once -/
theorem StL_box_aux {h : V} {r : Nat} {t : TypeId} {K : V → Prop} : ∀ (vs pre suf : List Value) (i : Nat) (h1 : V), pre.length = i → suf.length = vs.length → h1 r = some (.cells ⟨pre ++ suf⟩ t) → (∀ b, b ≠ r → h1 b = h b) →
    (∀ h', Box h' r (pre ++ vs) t → (∀ b, b ≠ r → h' b = h b) → K h') → StL h1 ⟨r, 0, none⟩ i vs K
  | [], pre, suf, i, h1, _, hs, hb, hf, hk => by
    have : suf = [] := List.eq_nil_of_length_eq_zero hs
    subst this
    exact hk h1 hb hf
  | v :: vs, pre, suf, i, h1, hp, hs, hb, hf, hk => by
    cases suf with
    | nil => simp at hs
    | cons u suf =>
      have e : Addr.add ⟨r, 0, none⟩ i = ⟨r, i, none⟩ := by unfold Addr.add; split <;> simp_all
      refine ⟨⟨_, _, 0, 0, by rw [e]; exact hb, by rw [e], by rw [e]; simp; omega, by rw [e]; simp⟩, ?_⟩
      rw [e]
      refine StL_box_aux vs (pre ++ [v]) suf (i + 1) _ (by simp [hp]) (by simpa using hs) ?_ (fun b hne => (setc_ne (a := ⟨r, i, none⟩) hne v).trans (hf b hne)) (fun h' hB hF => hk h' (by simpa using hB) hF)
      have := setc_self (a := ⟨r, i, none⟩) hb v
      rw [this]
      congr 2
      apply Array.ext'
      simp [← hp]
theorem StL_box {h h1 : V} {r : Nat} {cs vs : List Value} {t : TypeId} {K : V → Prop} (b : Box h1 r cs t) (hl : cs.length = vs.length) (hle : Le h h1) (hr : h r = none) (hk : ∀ h', Le h h' → Box h' r vs t → (∀ b, b ≠ r → h' b = h1 b) → K h') : StL h1 ⟨r, 0, none⟩ 0 vs K :=
  StL_box_aux (h := h1) vs [] cs 0 h1 rfl hl b (fun _ _ => rfl) fun h' hB hF => hk h' (fun b o hb => by
    by_cases e : b = r
    · subst e; rw [hr] at hb; cases hb
    · rw [hF b e]; exact hle _ _ hb) hB hF

/- conditions -/
theorem cond_dec {p : Prop} [Decidable p] {X Y : Prop} (hx : p → X) (hy : ¬ p → Y) : cond (decide p) X Y := by
  by_cases h : p
  · simp only [h, decide_true, cond_true]; exact hx h
  · simp only [h, decide_false, cond_false]; exact hy h
theorem cond_b {b : Bool} {X Y : Prop} (hx : b = true → X) (hy : b = false → Y) : cond b X Y := by
  cases b
  · exact hy rfl
  · exact hx rfl
theorem cond_eqi {x y : Int} {X Y : Prop} (hx : x = y → X) (hy : x ≠ y → Y) : cond (x == y) X Y := by
  by_cases h : x = y
  · subst h; simp only [beq_self_eq_true, cond_true]; exact hx rfl
  · have : (x == y) = false := by simpa using h
    rw [this]; exact hy h
theorem cond_nei {x y : Int} {X Y : Prop} (hx : x ≠ y → X) (hy : x = y → Y) : cond (x != y) X Y := by
  by_cases h : x = y
  · have : (x != y) = false := by simpa using h
    rw [this]; exact hy h
  · have : (x != y) = true := by simpa using h
    rw [this]; exact hx h
theorem cond_not {b : Bool} {X Y : Prop} (hx : b = false → X) (hy : b = true → Y) : cond (!b) X Y := by
  cases b
  · exact hx rfl
  · exact hy rfl
theorem unK_i {n : Int} {f : Int → Prop} (h : f n) : unK (.int .i64) (.int .i64 n) f := h
theorem Cut_i {σ : Type} {R : σ → V → Prop} {A : (σ → V → Prop) → Prop} (M : σ → V → Prop) (hA : ∀ J : σ → V → Prop, (∀ s h, M s h → J s h) → A J) (hR : ∀ s h, M s h → R s h) : Cut R A := hA R hR
theorem Wk_le {h h' : V} {K : V → Prop} (l : Le h' h) (hk : K h') : Wk h K := ⟨h', l, hk⟩
theorem Wk_self {h : V} {K : V → Prop} (hk : K h) : Wk h K := ⟨h, Le.refl h, hk⟩

/- loops -/
theorem Lp_inv {σ : Type} {step : (σ → V → Prop) → σ → V → Prop} (I : Nat → σ → V → Prop) {s : σ} {h : V} {n : Nat} (h0 : I n s h)
    (hs : ∀ n s h (K : σ → V → Prop), I n s h → (∀ m s' h', m < n → I m s' h' → K s' h') → step K s h) : Lp step s h := by
  have key : ∀ k n s h, n < k → I n s h → LpN step k s h := by
    intro k
    induction k with
    | zero => intro n s h hn; omega
    | succ k ih => intro n s h hn hI; exact hs n s h _ hI fun m s' h' hm hI' => ih m s' h' (by omega) hI'
  exact ⟨n + 1, key (n + 1) n s h (by omega) h0⟩
/- a loop that counts up to n -/
theorem Lp_count {σ : Type} {step : (σ → V → Prop) → σ → V → Prop} (n : Nat) (I : Nat → σ → V → Prop) {s : σ} {h : V} (h0 : I 0 s h)
    (hs : ∀ k s h (K : σ → V → Prop), k ≤ n → I k s h → (∀ s' h', k < n → I (k + 1) s' h' → K s' h') → step K s h) : Lp step s h := by
  refine Lp_inv (fun m s h => ∃ k, k ≤ n ∧ m = n - k ∧ I k s h) ⟨0, Nat.zero_le _, rfl, h0⟩ ?_
  rintro m s h K ⟨k, hk, rfl, hI⟩ hK
  exact hs k s h K hk hI fun s' h' hlt hI' => hK (n - (k + 1)) s' h' (by omega) ⟨k + 1, hlt, rfl, hI'⟩

/- slices that stand for lists -/
def isSl {α : Type} (rep : V → Addr → α → Prop) (sz : Nat) (h : V) (s : Sl) (xs : List α) : Prop :=
  s.n = xs.length ∧ s.n ≤ s.c ∧ s.n ≤ 9223372036854775807 ∧ ∀ k (hk : k < xs.length), ∃ a, s.a = some a ∧ rep h (a.add (k * sz)) xs[k]
theorem isSl.ix {α : Type} {rep : V → Addr → α → Prop} {sz : Nat} {h : V} {s : Sl} {xs : List α} (hs : isSl rep sz h s xs) {i : Int} {K : Addr → Prop} (h0 : 0 ≤ i) (h1 : i.toNat < xs.length) (hk : ∀ a, rep h a (xs[i.toNat]'h1) → K a) : Ix s i sz K := by
  obtain ⟨hn, _, _, ha⟩ := hs
  obtain ⟨a, ha, hr⟩ := ha i.toNat h1
  exact ⟨a, ha, h0, by omega, hk _ hr⟩
theorem isSl.ixn {α : Type} {rep : V → Addr → α → Prop} {sz : Nat} {h : V} {s : Sl} {xs : List α} (hs : isSl rep sz h s xs) {k : Nat} {K : Addr → Prop} (h1 : k < xs.length) (hk : ∀ a, rep h a xs[k] → K a) : Ix s (k : Int) sz K :=
  hs.ix (by omega) (by simpa using h1) fun a ha => hk a (by simpa using ha)
theorem isSl.len {α : Type} {rep : V → Addr → α → Prop} {sz : Nat} {h : V} {s : Sl} {xs : List α} (hs : isSl rep sz h s xs) : s.n = xs.length := hs.1
theorem isSl.bd {α : Type} {rep : V → Addr → α → Prop} {sz : Nat} {h : V} {s : Sl} {xs : List α} (hs : isSl rep sz h s xs) : xs.length ≤ 9223372036854775807 := hs.1 ▸ hs.2.2.1
def Mono {α : Type} (rep : V → Addr → α → Prop) : Prop := ∀ h h' a x, Le h h' → rep h a x → rep h' a x
theorem isSl.le {α : Type} {rep : V → Addr → α → Prop} {sz : Nat} {h h' : V} {s : Sl} {xs : List α} (hs : isSl rep sz h s xs) (hm : Mono rep) (l : Le h h') : isSl rep sz h' s xs :=
  ⟨hs.1, hs.2.1, hs.2.2.1, fun k hk => let ⟨a, h1, h2⟩ := hs.2.2.2 k hk; ⟨a, h1, hm _ _ _ _ l h2⟩⟩
theorem isSl_nil {α : Type} (rep : V → Addr → α → Prop) (sz : Nat) (h : V) : isSl rep sz h ⟨none, 0, 0⟩ [] := ⟨rfl, Nat.le_refl _, Nat.zero_le _, fun k hk => by simp at hk⟩
theorem wnat {k n : Nat} (h : k < n) (hn : n ≤ 9223372036854775807) : IntKind.wrap .i64 ((k : Int) + 1) = ((k + 1 : Nat) : Int) := by
  rw [w64 (by omega) (by omega)]; omega

def repInt (h : V) (a : Addr) (n : Int) : Prop := cellq h a = some (.int .i64 n)
def repBool (h : V) (a : Addr) (b : Bool) : Prop := cellq h a = some (.bool b)
theorem mono_int : Mono repInt := fun _ _ _ _ l h => cellq_le l h
theorem mono_bool : Mono repBool := fun _ _ _ _ l h => cellq_le l h
theorem Ld_i {h : V} {a : Addr} {n : Int} {K : Int → Prop} (hr : repInt h a n) (hk : K n) : Ld h a (.int .i64) K := ⟨n, hr, hk⟩
theorem Ld_c {h : V} {a : Addr} {k : Kd} {x : k.T} {K : k.T → Prop} (hc : cellq h a = some (k.mk x)) (hk : K x) : Ld h a k K := ⟨x, hc, hk⟩
/- an element taken out of a slice into a variable of its own: what is known of it is known at h0 -/
theorem elem_box {α : Type} {rep : V → Addr → α → Prop} {sz : Nat} {h0 h : V} {s : Sl} {xs : List α} {k : Nat} {ks : List Kd} {zs : List Value} {T : TypeId} {F : Tys ks → List Value} {K : Tys ks → Nat → V → Prop}
    (hs : isSl rep sz h0 s xs) (l : Le h0 h) (hk : k < xs.length) (hz : zs.length = ks.length) (hF : F = mks ks)
    (hb : ∀ a, rep h0 a xs[k] → ∃ x, cellsAt h0 a 0 (mks ks x) ∧ ∀ r h', Le h h' → h r = none → Box h' r (mks ks x) T → K x r h') :
    Ix s (k : Int) sz fun a => LdA h a ks fun x => New h (.cells ⟨zs⟩ T) fun r h1 => StL h1 ⟨r, 0, none⟩ 0 (F x) (K x r) := by
  subst hF
  refine hs.ixn hk fun a ha => ?_
  obtain ⟨x, hc, hx⟩ := hb a ha
  refine ⟨x, cellsAt_le l hc, New_box fun r h1 hr l b => StL_box b (by rw [hz, mks_length]) l hr fun h2 l2 b2 _ => hx r h2 l2 hr b2⟩
end Go.VL

/- The program's data as views have them: blocks, functions, programs. -/
namespace Go.VL
open Go

structure EdgeD where
  to : Int
  args : List Int
structure EndD where
  kind : Int
  val : Int
  ways : List EdgeD
  trap : Int
structure InsD where
  op : Int
  dst : Int
  args : List Int
  num : Int
  bin : Int
  arr : Int
  fn : Int
structure BlockD where
  params : List Int
  ins : List InsD
  e : EndD
structure FuncD where
  name : ByteArray
  blocks : List BlockD
structure ArrD where
  name : ByteArray
  hold : Int
  size : Int
structure ProgD where
  arrays : List ArrD
  funcs : List FuncD
  main : Int

abbrev iV (n : Int) : Value := .int .i64 n
abbrev sV (s : Sl) : Value := .slice s.a s.n s.c
abbrev isInts := isSl repInt 1
abbrev edgeV (e : EdgeD) (s : Sl) : List Value := [iV e.to, sV s]
def repEdge (h : V) (a : Addr) (e : EdgeD) : Prop := ∃ s, isInts h s e.args ∧ cellsAt h a 0 (edgeV e s)
abbrev isEdges := isSl repEdge 2
abbrev insV (i : InsD) (s : Sl) : List Value := [iV i.op, iV i.dst, sV s, iV i.num, iV i.bin, iV i.arr, iV i.fn]
def repIns (h : V) (a : Addr) (i : InsD) : Prop := ∃ s, isInts h s i.args ∧ cellsAt h a 0 (insV i s)
abbrev isInss := isSl repIns 7
abbrev blockV (b : BlockD) (p i w : Sl) : List Value := [sV p, sV i, iV b.e.kind, iV b.e.val, sV w, iV b.e.trap]
def repBlock (h : V) (a : Addr) (b : BlockD) : Prop := ∃ p i w, isInts h p b.params ∧ isInss h i b.ins ∧ isEdges h w b.e.ways ∧ cellsAt h a 0 (blockV b p i w)
abbrev isBlocks := isSl repBlock 6
abbrev funcV (f : FuncD) (s : Sl) : List Value := [.string f.name, sV s]
def repFunc (h : V) (a : Addr) (f : FuncD) : Prop := ∃ s, isBlocks h s f.blocks ∧ cellsAt h a 0 (funcV f s)
abbrev isFuncs := isSl repFunc 2
abbrev arrV (a : ArrD) : List Value := [.string a.name, iV a.hold, iV a.size]
def repArr (h : V) (a : Addr) (x : ArrD) : Prop := cellsAt h a 0 (arrV x)
abbrev isArrs := isSl repArr 3

theorem mono_edge : Mono repEdge := fun _ _ _ _ l ⟨s, h1, h2⟩ => ⟨s, h1.le mono_int l, cellsAt_le l h2⟩
theorem mono_ins : Mono repIns := fun _ _ _ _ l ⟨s, h1, h2⟩ => ⟨s, h1.le mono_int l, cellsAt_le l h2⟩
theorem mono_block : Mono repBlock := fun _ _ _ _ l ⟨p, i, w, h1, h2, h3, h4⟩ => ⟨p, i, w, h1.le mono_int l, h2.le mono_ins l, h3.le mono_edge l, cellsAt_le l h4⟩
theorem mono_func : Mono repFunc := fun _ _ _ _ l ⟨s, h1, h2⟩ => ⟨s, h1.le mono_block l, cellsAt_le l h2⟩
theorem mono_arr : Mono repArr := fun _ _ _ _ l h => cellsAt_le l h

def FuncD.params (f : FuncD) : List Int := match f.blocks with
  | [] => []
  | b :: _ => b.params

section
variable {h0 h : V} {s : Sl} {k : Nat} {T : TypeId} {zs : List Value}
theorem elem_block {bs : List BlockD} {F : Tys [.sl, .sl, .int .i64, .int .i64, .sl, .int .i64] → List Value} {K : Tys [.sl, .sl, .int .i64, .int .i64, .sl, .int .i64] → Nat → V → Prop} (hs : isBlocks h0 s bs) (l : Le h0 h) (hk : k < bs.length) (hz : zs.length = 6) (hF : F = mks _)
    (hb : ∀ p i w, isInts h0 p bs[k].params → isInss h0 i bs[k].ins → isEdges h0 w bs[k].e.ways → ∀ r h', Le h0 h' → Le h h' → h r = none → Box h' r (blockV bs[k] p i w) T → K (p, i, bs[k].e.kind, bs[k].e.val, w, bs[k].e.trap, ()) r h') :
    Ix s (k : Int) 6 fun a => LdA h a [.sl, .sl, .int .i64, .int .i64, .sl, .int .i64] fun x => New h (.cells ⟨zs⟩ T) fun r h1 => StL h1 ⟨r, 0, none⟩ 0 (F x) (K x r) :=
  elem_box hs l hk hz hF fun _ ⟨p, i, w, h1, h2, h3, hc⟩ => ⟨(p, i, bs[k].e.kind, bs[k].e.val, w, bs[k].e.trap, ()), hc, fun r h' l' hr b => hb p i w h1 h2 h3 r h' (l.trans l') l' hr b⟩
theorem elem_ins {bs : List InsD} {F : Tys [.int .i64, .int .i64, .sl, .int .i64, .int .i64, .int .i64, .int .i64] → List Value} {K : Tys [.int .i64, .int .i64, .sl, .int .i64, .int .i64, .int .i64, .int .i64] → Nat → V → Prop} (hs : isInss h0 s bs) (l : Le h0 h) (hk : k < bs.length) (hz : zs.length = 7) (hF : F = mks _)
    (hb : ∀ p, isInts h0 p bs[k].args → ∀ r h', Le h0 h' → Le h h' → h r = none → Box h' r (insV bs[k] p) T → K (bs[k].op, bs[k].dst, p, bs[k].num, bs[k].bin, bs[k].arr, bs[k].fn, ()) r h') :
    Ix s (k : Int) 7 fun a => LdA h a [.int .i64, .int .i64, .sl, .int .i64, .int .i64, .int .i64, .int .i64] fun x => New h (.cells ⟨zs⟩ T) fun r h1 => StL h1 ⟨r, 0, none⟩ 0 (F x) (K x r) :=
  elem_box hs l hk hz hF fun _ ⟨p, h1, hc⟩ => ⟨(bs[k].op, bs[k].dst, p, bs[k].num, bs[k].bin, bs[k].arr, bs[k].fn, ()), hc, fun r h' l' hr b => hb p h1 r h' (l.trans l') l' hr b⟩
theorem elem_edge {bs : List EdgeD} {F : Tys [.int .i64, .sl] → List Value} {K : Tys [.int .i64, .sl] → Nat → V → Prop} (hs : isEdges h0 s bs) (l : Le h0 h) (hk : k < bs.length) (hz : zs.length = 2) (hF : F = mks _)
    (hb : ∀ p, isInts h0 p bs[k].args → ∀ r h', Le h0 h' → Le h h' → h r = none → Box h' r (edgeV bs[k] p) T → K (bs[k].to, p, ()) r h') :
    Ix s (k : Int) 2 fun a => LdA h a [.int .i64, .sl] fun x => New h (.cells ⟨zs⟩ T) fun r h1 => StL h1 ⟨r, 0, none⟩ 0 (F x) (K x r) :=
  elem_box hs l hk hz hF fun _ ⟨p, h1, hc⟩ => ⟨(bs[k].to, p, ()), hc, fun r h' l' hr b => hb p h1 r h' (l.trans l') l' hr b⟩
theorem elem_func {bs : List FuncD} {F : Tys [.str, .sl] → List Value} {K : Tys [.str, .sl] → Nat → V → Prop} (hs : isFuncs h0 s bs) (l : Le h0 h) (hk : k < bs.length) (hz : zs.length = 2) (hF : F = mks _)
    (hb : ∀ p, isBlocks h0 p bs[k].blocks → ∀ r h', Le h0 h' → Le h h' → h r = none → Box h' r (funcV bs[k] p) T → K (bs[k].name, p, ()) r h') :
    Ix s (k : Int) 2 fun a => LdA h a [.str, .sl] fun x => New h (.cells ⟨zs⟩ T) fun r h1 => StL h1 ⟨r, 0, none⟩ 0 (F x) (K x r) :=
  elem_box hs l hk hz hF fun _ ⟨p, h1, hc⟩ => ⟨(bs[k].name, p, ()), hc, fun r h' l' hr b => hb p h1 r h' (l.trans l') l' hr b⟩
theorem elem_arr {bs : List ArrD} {F : Tys [.str, .int .i64, .int .i64] → List Value} {K : Tys [.str, .int .i64, .int .i64] → Nat → V → Prop} (hs : isArrs h0 s bs) (l : Le h0 h) (hk : k < bs.length) (hz : zs.length = 3) (hF : F = mks _)
    (hb : ∀ r h', Le h0 h' → Le h h' → h r = none → Box h' r (arrV bs[k]) T → K (bs[k].name, bs[k].hold, bs[k].size, ()) r h') :
    Ix s (k : Int) 3 fun a => LdA h a [.str, .int .i64, .int .i64] fun x => New h (.cells ⟨zs⟩ T) fun r h1 => StL h1 ⟨r, 0, none⟩ 0 (F x) (K x r) :=
  elem_box hs l hk hz hF fun _ hc => ⟨(bs[k].name, bs[k].hold, bs[k].size, ()), hc, fun r h' l' hr b => hb r h' (l.trans l') l' hr b⟩
end
end Go.VL

/- Maps with whole numbers as keys, as views have them. -/
namespace Go.VL
open Go

def mget {α : Type} (m : List (Int × α)) (k : Int) : Option α := (m.find? fun p => p.1 == k).map (·.2)
def mset {α : Type} : List (Int × α) → Int → α → List (Int × α)
  | [], k, v => [(k, v)]
  | (j, u) :: m, k, v => if j = k then (k, v) :: m else (j, u) :: mset m k v
def mdel {α : Type} : List (Int × α) → Int → List (Int × α)
  | [], _ => []
  | (j, u) :: m, k => if j = k then m else (j, u) :: mdel m k
def mkeys {α : Type} (m : List (Int × α)) : List Int := m.map (·.1)

section
variable {α : Type}
theorem mget_nil (k : Int) : mget ([] : List (Int × α)) k = none := rfl
theorem mget_cons (j : Int) (u : α) (m : List (Int × α)) (k : Int) : mget ((j, u) :: m) k = if j = k then some u else mget m k := by
  unfold mget
  by_cases h : j = k
  · simp [h]
  · have : (j == k) = false := by simpa using h
    simp [List.find?_cons, this, h]
theorem mget_none {m : List (Int × α)} {k : Int} : mget m k = none ↔ k ∉ mkeys m := by
  induction m with
  | nil => simp [mget_nil, mkeys]
  | cons p m ih =>
    obtain ⟨j, u⟩ := p
    rw [mget_cons]
    by_cases h : j = k
    · simp [h, mkeys]
    · have h' : ¬ k = j := fun e => h e.symm
      rw [if_neg h, ih]
      simp [mkeys, h']
theorem mget_isSome {m : List (Int × α)} {k : Int} : (mget m k).isSome = true ↔ k ∈ mkeys m := by
  rw [← Option.ne_none_iff_isSome, Ne, mget_none]
  simp
theorem mget_mset (m : List (Int × α)) (k : Int) (v : α) (k' : Int) : mget (mset m k v) k' = if k = k' then some v else mget m k' := by
  induction m with
  | nil => simp [mset, mget_cons, mget_nil]
  | cons p m ih =>
    obtain ⟨j, u⟩ := p
    unfold mset
    by_cases h : j = k
    · subst h
      rw [if_pos rfl, mget_cons, mget_cons]
      by_cases h' : j = k' <;> simp [h']
    · rw [if_neg h, mget_cons, mget_cons, ih]
      by_cases h1 : j = k'
      · subst h1
        have : ¬ k = j := fun e => h e.symm
        simp [this]
      · simp [h1]
theorem mkeys_mset (m : List (Int × α)) (k : Int) (v : α) : mkeys (mset m k v) = if k ∈ mkeys m then mkeys m else mkeys m ++ [k] := by
  induction m with
  | nil => simp [mset, mkeys]
  | cons p m ih =>
    obtain ⟨j, u⟩ := p
    unfold mset
    by_cases h : j = k
    · subst h; simp [mkeys]
    · rw [if_neg h]
      have h' : ¬ k = j := fun e => h e.symm
      have e : mkeys ((j, u) :: mset m k v) = j :: mkeys (mset m k v) := rfl
      have e2 : mkeys ((j, u) :: m) = j :: mkeys m := rfl
      rw [e, ih, e2]
      by_cases hk : k ∈ mkeys m
      · simp [hk]
      · simp [hk, h']
theorem mset_nodup {m : List (Int × α)} (h : (mkeys m).Nodup) (k : Int) (v : α) : (mkeys (mset m k v)).Nodup := by
  rw [mkeys_mset]
  split
  · exact h
  · rename_i hk
    rw [List.nodup_append]
    refine ⟨h, by simp, ?_⟩
    intro a ha b hb
    simp only [List.mem_singleton] at hb
    subst hb
    intro e; subst e; exact hk ha
theorem mkeys_len (m : List (Int × α)) : (mkeys m).length = m.length := List.length_map _
theorem mset_length (m : List (Int × α)) (k : Int) (v : α) : (mset m k v).length = if k ∈ mkeys m then m.length else m.length + 1 := by
  have := congrArg List.length (mkeys_mset m k v)
  rw [mkeys_len] at this
  rw [this]
  by_cases hk : k ∈ mkeys m
  · rw [if_pos hk, if_pos hk, mkeys_len]
  · rw [if_neg hk, if_neg hk, List.length_append, mkeys_len]; rfl
theorem mkeys_mdel (m : List (Int × α)) (k : Int) : mkeys (mdel m k) = (mkeys m).erase k := by
  induction m with
  | nil => rfl
  | cons p m ih =>
    obtain ⟨j, u⟩ := p
    unfold mdel
    by_cases h : j = k
    · subst h; simp [mkeys]
    · rw [if_neg h]
      have e : mkeys ((j, u) :: mdel m k) = j :: mkeys (mdel m k) := rfl
      have e2 : mkeys ((j, u) :: m) = j :: mkeys m := rfl
      have hjk : (j == k) = false := by simpa using h
      rw [e, e2, ih, List.erase_cons]
      simp [h]
theorem mdel_nodup {m : List (Int × α)} (h : (mkeys m).Nodup) (k : Int) : (mkeys (mdel m k)).Nodup := by
  rw [mkeys_mdel]; exact h.erase k
theorem mget_mdel {m : List (Int × α)} (h : (mkeys m).Nodup) (k k' : Int) : mget (mdel m k) k' = if k = k' then none else mget m k' := by
  induction m with
  | nil => simp [mdel, mget_nil]
  | cons p m ih =>
    obtain ⟨j, u⟩ := p
    have h2 := List.nodup_cons.1 (show (j :: mkeys m).Nodup from h)
    unfold mdel
    by_cases hjk : j = k
    · subst hjk
      rw [if_pos rfl, mget_cons]
      by_cases h' : j = k'
      · subst h'; simp [mget_none.2 h2.1]
      · simp [h']
    · rw [if_neg hjk, mget_cons, mget_cons, ih h2.2]
      by_cases h1 : j = k'
      · subst h1
        have : ¬ k = j := fun e => hjk e.symm
        simp [this]
      · simp [h1]
theorem mget_mem {m : List (Int × α)} (h : (mkeys m).Nodup) {k : Int} {v : α} : mget m k = some v ↔ (k, v) ∈ m := by
  induction m with
  | nil => simp [mget_nil]
  | cons p m ih =>
    obtain ⟨j, u⟩ := p
    have h2 := List.nodup_cons.1 (show (j :: mkeys m).Nodup from h)
    rw [mget_cons]
    by_cases hjk : j = k
    · subst hjk
      rw [if_pos rfl]
      constructor
      · intro e; cases e; simp
      · intro hm
        rcases List.mem_cons.1 hm with e | e
        · cases e; rfl
        · exact absurd (List.mem_map.2 ⟨(j, v), e, rfl⟩) h2.1
    · rw [if_neg hjk, ih h2.2]
      simp only [List.mem_cons, Prod.mk.injEq]
      constructor
      · exact fun h => .inr h
      · rintro (⟨e, _⟩ | h)
        · exact absurd e.symm hjk
        · exact h
end

/- an object that is a map -/
structure MapRep (kd : Kd) (o : Obj) (m : List (Int × kd.T)) : Prop where
  nodup : (mkeys m).Nodup
  ex : ∃ es clk, o = .map es clk ∧ es.toList.map (fun e => (e.key, e.val)) = m.map (fun p => (Value.int .i64 p.1, kd.mk p.2)) ∧ (es.toList.map (·.born)).Nodup ∧ ∀ e ∈ es.toList, e.born < clk
theorem MapRep.empty (kd : Kd) : MapRep kd (.map #[] 0) [] := ⟨by simp [mkeys], #[], 0, rfl, by simp, by simp, by simp⟩

section
variable {kd : Kd}
theorem findNow_map {k : Int} : ∀ {es : List MapEntry} {m : List (Int × kd.T)} {n : Nat}, es.map (fun e => (e.key, e.val)) = m.map (fun p => (Value.int .i64 p.1, kd.mk p.2)) →
    (∀ v, mget m k = some v → ∃ i, Instr.findNow (.int .i64) (.int .i64 k) es n = some (some (n + i, kd.mk v)) ∧ m[i]? = some (k, v) ∧ ∀ j < i, ∀ p, m[j]? = some p → p.1 ≠ k) ∧ (mget m k = none → Instr.findNow (.int .i64) (.int .i64 k) es n = some none)
  | [], m, n, h => by
    have : m = [] := by simpa using h.symm
    subst this
    exact ⟨fun v hv => by simp [mget_nil] at hv, fun _ => rfl⟩
  | e :: es, [], n, h => by simp at h
  | e :: es, (j, u) :: m, n, h => by
    simp only [List.map_cons, List.cons.injEq, Prod.mk.injEq] at h
    obtain ⟨⟨h1, h2⟩, h3⟩ := h
    obtain ⟨ih1, ih2⟩ := findNow_map (k := k) (n := n + 1) h3
    have hs : Instr.sameNow (.int .i64) (.int .i64 k) e.key = some (k == j) := by rw [h1]; simp [Instr.sameNow]
    rw [mget_cons]
    by_cases hjk : j = k
    · subst hjk
      rw [if_pos rfl]
      refine ⟨fun v hv => ?_, fun hv => by cases hv⟩
      cases hv
      refine ⟨0, ?_, rfl, fun j hj => absurd hj (by omega)⟩
      unfold Instr.findNow
      rw [hs]
      simp [h2]
    · rw [if_neg hjk]
      have hkj : (k == j) = false := by simpa using fun e : k = j => hjk e.symm
      refine ⟨fun v hv => ?_, fun hv => ?_⟩
      · obtain ⟨i, hi1, hi2, hi3⟩ := ih1 v hv
        refine ⟨i + 1, ?_, by simpa using hi2, ?_⟩
        · unfold Instr.findNow
          rw [hs, hkj]
          simp only
          rw [hi1]
          congr 3
          omega
        · intro q hq p hp
          cases q with
          | zero => simp at hp; subst hp; exact hjk
          | succ q => exact hi3 q (by omega) p (by simpa using hp)
      · unfold Instr.findNow
        rw [hs, hkj]
        exact ih2 hv
theorem Look_map {h : V} {r : Nat} {o : Obj} {m : List (Int × kd.T)} {k : Int} {z : kd.T} {K : kd.T → Bool → Prop} (ho : h r = some o) (hm : MapRep kd o m) (hk : K ((mget m k).getD z) (mget m k).isSome) : Look h (some r) (.int .i64) (.int .i64 k) (.one kd) z K := by
  obtain ⟨es, clk, rfl, he, _⟩ := hm.ex
  obtain ⟨h1, h2⟩ := findNow_map (k := k) (n := 0) he
  refine ⟨es, clk, ho, ?_⟩
  cases hg : mget m k with
  | none => rw [hg] at hk; exact .inr ⟨h2 hg, hk⟩
  | some v =>
    rw [hg] at hk
    obtain ⟨i, hi, _⟩ := h1 v hg
    exact .inl ⟨0 + i, v, hi, hk⟩
theorem mset_at {α : Type} : ∀ {m : List (Int × α)} {i : Nat} {k : Int} {v u : α}, m[i]? = some (k, u) → (∀ j < i, ∀ p, m[j]? = some p → p.1 ≠ k) → mset m k v = m.set i (k, v)
  | [], i, _, _, _, h, _ => by simp at h
  | (j, w) :: m, 0, k, v, u, h, _ => by
    simp at h
    obtain ⟨rfl, rfl⟩ := h
    simp [mset]
  | (j, w) :: m, i + 1, k, v, u, h, hf => by
    have hjk : j ≠ k := hf 0 (by omega) (j, w) rfl
    unfold mset
    rw [if_neg hjk, List.set_cons_succ, mset_at (by simpa using h) fun q hq p hp => hf (q + 1) (by omega) p (by simpa using hp)]
theorem mset_new {α : Type} : ∀ {m : List (Int × α)} {k : Int} {v : α}, k ∉ mkeys m → mset m k v = m ++ [(k, v)]
  | [], _, _, _ => rfl
  | (j, w) :: m, k, v, h => by
    have h1 : ¬ j = k := fun e => h (by simp [mkeys, e])
    have h2 : k ∉ mkeys m := fun e => h (List.mem_cons_of_mem _ e)
    unfold mset
    rw [if_neg h1, mset_new h2]
    rfl
theorem mdel_at {α : Type} : ∀ {m : List (Int × α)} {i : Nat} {k : Int} {u : α}, m[i]? = some (k, u) → (∀ j < i, ∀ p, m[j]? = some p → p.1 ≠ k) → mdel m k = m.eraseIdx i
  | [], i, _, _, h, _ => by simp at h
  | (j, w) :: m, 0, k, u, h, _ => by
    simp at h
    obtain ⟨rfl, rfl⟩ := h
    simp [mdel]
  | (j, w) :: m, i + 1, k, u, h, hf => by
    have hjk : j ≠ k := hf 0 (by omega) (j, w) rfl
    unfold mdel
    rw [if_neg hjk, List.eraseIdx_cons_succ, mdel_at (by simpa using h) fun q hq p hp => hf (q + 1) (by omega) p (by simpa using hp)]
theorem mdel_new {α : Type} : ∀ {m : List (Int × α)} {k : Int}, k ∉ mkeys m → mdel m k = m
  | [], _, _ => rfl
  | (j, w) :: m, k, h => by
    have h1 : ¬ j = k := fun e => h (by simp [mkeys, e])
    have h2 : k ∉ mkeys m := fun e => h (List.mem_cons_of_mem _ e)
    unfold mdel
    rw [if_neg h1, mdel_new h2]
theorem MUpd_map {h : V} {r : Nat} {o : Obj} {m : List (Int × kd.T)} {k : Int} {v : kd.T} {K : V → Prop} (ho : h r = some o) (hm : MapRep kd o m) (hk : ∀ o', MapRep kd o' (mset m k v) → K (h.upd r o')) :
    MUpd h (some r) (.int .i64) (.int .i64 k) (kd.mk v) K := by
  obtain ⟨es, clk, rfl, he, hb, hc⟩ := hm.ex
  obtain ⟨h1, h2⟩ := findNow_map (k := k) (n := 0) he
  refine ⟨r, es, clk, rfl, ho, ?_⟩
  cases hg : mget m k with
  | none =>
    refine .inr ⟨h2 hg, hk _ ⟨mset_nodup hm.nodup k v, _, _, rfl, ?_, ?_, ?_⟩⟩
    · rw [mset_new (mget_none.1 hg)]
      simp [he]
    · simp only [Array.toList_push, List.map_append, List.map_cons, List.map_nil]
      rw [List.nodup_append]
      refine ⟨hb, by simp, ?_⟩
      intro a ha b hb' e
      simp only [List.mem_singleton] at hb'
      subst hb'; subst e
      obtain ⟨x, hx, e⟩ := List.mem_map.1 ha
      have := hc x hx
      omega
    · intro e he'
      simp only [Array.toList_push, List.mem_append, List.mem_singleton] at he'
      rcases he' with he' | rfl
      · exact Nat.lt_succ_of_lt (hc e he')
      · simp
  | some u =>
    obtain ⟨i, hi, hi2, hi3⟩ := h1 u hg
    rw [Nat.zero_add] at hi
    refine .inl ⟨i, _, hi, hk _ ⟨mset_nodup hm.nodup k v, _, _, rfl, ?_, ?_, ?_⟩⟩
    · rw [mset_at (v := v) hi2 hi3]
      rw [Array.toList_modify, List.map_set, ← he]
      apply List.ext_getElem?
      intro j
      simp only [List.getElem?_map, List.getElem?_modify, List.getElem?_set]
      by_cases hij : i = j
      · subst hij
        simp only [if_true]
        have hlen : i < es.toList.length := by
          have := congrArg List.length he
          simp only [List.length_map] at this
          rw [this]
          exact (List.getElem?_eq_some_iff.1 hi2).1
        rw [List.getElem?_eq_getElem hlen]
        simpa using hlen
      · simp [hij]
    · have : (es.modify i fun e => { e with key := Value.int .i64 k, val := kd.mk v }).toList.map (·.born) = es.toList.map (·.born) := by
        rw [Array.toList_modify]
        apply List.ext_getElem?
        intro j
        simp only [List.getElem?_map, List.getElem?_modify]
        by_cases hij : i = j
        · subst hij; cases es.toList[i]? <;> simp
        · simp [hij]
      rw [this]; exact hb
    · intro e he'
      rw [Array.toList_modify] at he'
      obtain ⟨j, hj⟩ := List.mem_iff_getElem?.1 he'
      rw [List.getElem?_modify] at hj
      cases hx : es.toList[j]? with
      | none => rw [hx] at hj; simp at hj
      | some x =>
        rw [hx] at hj
        have hxm := hc x (List.mem_of_getElem? hx)
        simp only [Option.map_eq_map, Option.map_some, Option.some.injEq] at hj
        subst hj
        split <;> exact hxm
theorem erase_map {α β : Type} (f : α → β) : ∀ (l : List α) (i : Nat), (l.eraseIdx i).map f = (l.map f).eraseIdx i
  | [], i => by simp
  | a :: l, 0 => by simp
  | a :: l, i + 1 => by simp [erase_map f l i]
theorem MDel_map {h : V} {r : Nat} {o : Obj} {m : List (Int × kd.T)} {k : Int} {K : V → Prop} (ho : h r = some o) (hm : MapRep kd o m) (hk : ∀ o', MapRep kd o' (mdel m k) → K (h.upd r o')) :
    MDel h (some r) (.int .i64) (.int .i64 k) K := by
  obtain ⟨es, clk, rfl, he, hb, hc⟩ := hm.ex
  obtain ⟨h1, h2⟩ := findNow_map (k := k) (n := 0) he
  refine ⟨es, clk, ho, ?_⟩
  cases hg : mget m k with
  | none =>
    refine .inr ⟨h2 hg, hk _ ⟨mdel_nodup hm.nodup k, _, _, rfl, ?_, hb, hc⟩⟩
    rw [mdel_new (mget_none.1 hg)]
    exact he
  | some u =>
    obtain ⟨i, hi, hi2, hi3⟩ := h1 u hg
    rw [Nat.zero_add] at hi
    have hlen : i < es.toList.length := by
      have := congrArg List.length he
      simp only [List.length_map] at this
      rw [this]
      exact (List.getElem?_eq_some_iff.1 hi2).1
    have herase : (es.eraseIdxIfInBounds i).toList = es.toList.eraseIdx i := by
      simp only [Array.eraseIdxIfInBounds]
      split
      · simp
      · rename_i hx; exact absurd (by simpa using hlen) hx
    refine .inl ⟨i, _, hi, hk _ ⟨mdel_nodup hm.nodup k, _, _, rfl, ?_, ?_, ?_⟩⟩
    · rw [herase, mdel_at hi2 hi3, erase_map, erase_map, he]
    · rw [herase, erase_map]
      exact hb.sublist (List.eraseIdx_sublist _ _)
    · intro e he'
      rw [herase] at he'
      exact hc e (List.mem_of_mem_eraseIdx he')
theorem LenM_map {h : V} {r : Nat} {o : Obj} {m : List (Int × kd.T)} {K : Int → Prop} (ho : h r = some o) (hm : MapRep kd o m) (hk : K (m.length : Nat)) : LenM h (some r) K := by
  obtain ⟨es, clk, rfl, he, _⟩ := hm.ex
  refine ⟨es, clk, ho, ?_⟩
  have := congrArg List.length he
  simp only [List.length_map, Array.length_toList] at this
  rw [this]; exact hk
end
end Go.VL

/- From a row's reading of memory to views. -/
namespace Go.VL
open Go Go.RowKit Go.WideShapes Go.ChangeShapes

def V.of (w : World) : V := fun b => w.heap[b]?
theorem sees_of (w : World) : Sees w (V.of w) := fun _ _ h => h
theorem cellq_of (w : World) (a : Addr) : cellq (V.of w) a = w.cell? a := rfl
/- what a call that began with the whole memory leaves as it was -/
theorem below_of {w w' : World} {h' : V} (k : Kept w w') (s : Sees w' h') (l : Le (V.of w) h') : Below w.heap.size w w' := by
  have hb : ∀ k, k < w.heap.size → w'.heap[k]? = w.heap[k]? := fun k hk => by
    have e : w.heap[k]? = some w.heap[k] := Array.getElem?_eq_getElem hk
    rw [e]
    exact s _ _ (l _ _ e)
  refine ⟨k.os, k.tape, k.output, ?_, hb⟩
  rcases Nat.eq_zero_or_pos w.heap.size with h0 | h0
  · omega
  · have := hb (w.heap.size - 1) (by omega)
    rw [Array.getElem?_eq_getElem (by omega : w.heap.size - 1 < w.heap.size)] at this
    have := (Array.getElem?_eq_some_iff.1 this).1
    omega
theorem list_choose {α : Type} {Q : Nat → α → Prop} : ∀ n : Nat, (∀ i, i < n → ∃ x, Q i x) → ∃ xs : List α, xs.length = n ∧ ∀ i (h : i < xs.length), Q i xs[i]
  | 0, _ => ⟨[], rfl, fun i h => by simp at h⟩
  | n + 1, hq => by
    obtain ⟨xs, h1, h2⟩ := list_choose n fun i hi => hq i (by omega)
    obtain ⟨x, hx⟩ := hq n (by omega)
    refine ⟨xs ++ [x], by simp [h1], fun i hi => ?_⟩
    by_cases g : i < xs.length
    · rw [List.getElem_append_left g]; exact h2 i g
    · have e : i = n := by simp at hi; omega
      subst e
      rw [List.getElem_append_right (by omega)]
      simpa [h1] using hx

section
variable {H : Type} {enc : TypeId × Value → H} {P : Program} {w : World} {base : Nat} {spare : Nat → Bool} {held : Bool}
def Rd (enc : TypeId × Value → H) (P : Program) (w : World) (base : Nat) (spare : Nat → Bool) (held : Bool) (t : TypeId) (cs : List Value) : Prop := ∃ fuel x, DataW.trod enc P w base spare held fuel t cs = some x
theorem rd_slice {α : Type} {rep : V → Addr → α → Prop} {t e : TypeId} {sz : Nat} {cs : List Value} (ht : P.underlying t = some (.slice e)) (hsz : P.cellsOf e = sz)
    (hel : ∀ a cs', (∀ j, j < sz → w.cell? (a.add j) = cs'[j]?) → cs'.length = sz → Rd enc P w base spare held e cs' → ∃ x, rep (V.of w) a x) (h : Rd enc P w base spare held t cs) :
    ∃ (s : Sl) (xs : List α), cs = [.slice s.a s.n s.c] ∧ isSl rep sz (V.of w) s xs := by
  obtain ⟨fuel, x, h⟩ := h
  rcases Deep.open_slice ht h with ⟨rfl, _⟩ | ⟨a, len, cap, m, n, D, Pl, rfl, hb, hl, hm, hmm, hx, hi⟩
  · exact ⟨⟨none, 0, 0⟩, [], rfl, isSl_nil _ _ _⟩
  · have hlm : len ≤ m := by rw [hmm]; split <;> omega
    obtain ⟨xs, h1, h2⟩ := list_choose (Q := fun i x => rep (V.of w) (a.add (i * sz)) x) len fun i hil => by
      obtain ⟨cs', hc, htr⟩ := hi i (by omega)
      rw [hsz] at hc
      obtain ⟨_, hlen, hat⟩ := World.cells?_some hc
      exact hel _ cs' hat hlen ⟨n, _, htr⟩
    have : maxLen = 9223372036854775807 := by decide
    exact ⟨⟨some a, len, cap⟩, xs, rfl, h1.symm, hl, by show len ≤ _; omega, fun k hk => ⟨a, rfl, h2 k hk⟩⟩
theorem rd_int {t : TypeId} {k : IntKind} {cs : List Value} (ht : P.underlying t = some (.int k)) (h : Rd enc P w base spare held t cs) : ∃ n, cs = [.int k n] ∧ (Lit.int k n).wf = true := by
  obtain ⟨fuel, x, h⟩ := h
  cases fuel with
  | zero => simp [DataW.trod] at h
  | succ n =>
    unfold DataW.trod at h
    rw [ht] at h
    split at h <;> simp_all
theorem rd_string {t : TypeId} {cs : List Value} (ht : P.underlying t = some .string) (h : Rd enc P w base spare held t cs) : ∃ s, cs = [.string s] := by
  obtain ⟨fuel, x, h⟩ := h
  cases fuel with
  | zero => simp [DataW.trod] at h
  | succ n =>
    unfold DataW.trod at h
    rw [ht] at h
    split at h <;> simp_all
theorem rd_field {t : TypeId} {fs : Array Field} {cs : List Value} (ht : P.underlying t = some (.struct fs)) (h : Rd enc P w base spare held t cs) :
    cs.length = P.cellsOf t ∧ ∀ (j : Nat) f, fs[j]? = some f → Rd enc P w base spare held f.type ((cs.drop f.offset).take (P.cellsOf f.type)) := by
  obtain ⟨fuel, x, h⟩ := h
  obtain ⟨xs, n, _, _, h1, h2, h3⟩ := DataW.trod_struct ht h
  refine ⟨h1, fun j f hf => ?_⟩
  have hj : j < xs.length := by rw [h2]; exact (Array.getElem?_eq_some_iff.1 hf).1
  exact ⟨n, xs[j], by rw [h3 j f hf, List.getElem?_eq_getElem hj]⟩
theorem rd_at {a : Addr} {cs : List Value} {sz : Nat} (h : ∀ j, j < sz → w.cell? (a.add j) = cs[j]?) (hl : cs.length = sz) : cellsAt (V.of w) a 0 cs :=
  cellsAt_of fun j v hv => by rw [Nat.zero_add, cellq_of, h j (by have := (List.getElem?_eq_some_iff.1 hv).1; omega), hv]
end
end Go.VL

/- What functions of the program ask of a view of memory: printed by shal.py. -/
namespace Go.Proofs.Ytaefmhephoilmaa
open Go Go.VL
set_option maxRecDepth 100000
theorem mixed : Try.prog.follows .mixedOrders = true := by kernel_rfl
/- palings/ssa.shape -/
def an41 : An := (.two .nil (.two (.two .nil (.one (.cut [(5, (.one .bool))] (.two .nil (.two .nil .nil)) (.two (.two .nil .nil) (.two .nil (.two (.two .nil .nil) (.two .nil (.two (.two .nil .nil) (.two .nil (.two (.two .nil .nil) (.two .nil (.two (.two .nil .nil) (.two .nil (.two (.two .nil .nil) .nil)))))))))))))) (.two .nil .nil)))
def S41 (p0 : Int) (h : V) (R : Value → V → Prop) : Prop :=
  Cut (σ := (Bool × Unit)) (fun s h1 =>
  cond s.1
  (Wk h1 fun h2 => R (.tuple ⟨[(.int .i64 ((0 : Int))), (.bool true)]⟩) h2)
  (cond (p0 == ((2 : Int)))
  (Wk h1 fun h3 => R (.tuple ⟨[(.int .i64 ((2 : Int))), (.bool true)]⟩) h3)
  (cond (p0 == ((4 : Int)))
  (Wk h1 fun h4 => R (.tuple ⟨[(.int .i64 ((1 : Int))), (.bool false)]⟩) h4)
  (cond (p0 == ((5 : Int)))
  (Wk h1 fun h5 => R (.tuple ⟨[(.int .i64 ((1 : Int))), (.bool true)]⟩) h5)
  (cond (p0 == ((6 : Int)))
  (Wk h1 fun h6 => R (.tuple ⟨[(.int .i64 ((2 : Int))), (.bool false)]⟩) h6)
  (cond (p0 == ((7 : Int)))
  (Wk h1 fun h7 => R (.tuple ⟨[(.int .i64 ((-1 : Int))), (.bool true)]⟩) h7)
  (Wk h1 fun h8 => R (.tuple ⟨[(.int .i64 ((-2 : Int))), (.bool false)]⟩) h8))))))) fun J =>
  cond (p0 == ((1 : Int)))
  (Wk h fun h9 => J (p0 == ((1 : Int)), ()) h9)
  (Wk h fun h10 => J (p0 == ((3 : Int)), ()) h10)
theorem S41_eq (p0 : Int) (h : V) (R : Value → V → Prop) : ABody Try.prog an41 Try.f41 [(.int .i64 p0)] h R = S41 p0 h R := by kernel_rfl
theorem S41_ok (p0 : Int) (h : V) (R : Value → V → Prop) (hk : S41 p0 h R) : ACalls Try.prog 41 [(.int .i64 p0)] h R :=
  ABody_sound mixed Try.func41 Try.call41 (by kernel_rfl) (by kernel_rfl) (an := an41) (by rw [S41_eq]; exact hk)

/- (palings/word.Op).Known -/
def an42 : An := (.two .nil (.two .nil .nil))
def S42 (p0 : Int) (h : V) (R : Value → V → Prop) : Prop :=
  cond (decide (p0 ≥ ((1 : Int))))
  (Wk h fun h1 => R (.bool (decide (p0 ≤ ((15 : Int))))) h1)
  (Wk h fun h2 => R (.bool false) h2)
theorem S42_eq (p0 : Int) (h : V) (R : Value → V → Prop) : ABody Try.prog an42 Try.f42 [(.int .i64 p0)] h R = S42 p0 h R := by kernel_rfl
theorem S42_ok (p0 : Int) (h : V) (R : Value → V → Prop) (hk : S42 p0 h R) : ACalls Try.prog 42 [(.int .i64 p0)] h R :=
  ABody_sound mixed Try.func42 Try.call42 (by kernel_rfl) (by kernel_rfl) (an := an42) (by rw [S42_eq]; exact hk)

/- (palings/word.Op).Divides -/
def an34 : An := (.two .nil (.two .nil .nil))
def S34 (p0 : Int) (h : V) (R : Value → V → Prop) : Prop :=
  cond (p0 == ((4 : Int)))
  (Wk h fun h1 => R (.bool true) h1)
  (Wk h fun h2 => R (.bool (p0 == ((5 : Int)))) h2)
theorem S34_eq (p0 : Int) (h : V) (R : Value → V → Prop) : ABody Try.prog an34 Try.f34 [(.int .i64 p0)] h R = S34 p0 h R := by kernel_rfl
theorem S34_ok (p0 : Int) (h : V) (R : Value → V → Prop) (hk : S34 p0 h R) : ACalls Try.prog 34 [(.int .i64 p0)] h R :=
  ABody_sound mixed Try.func34 Try.call34 (by kernel_rfl) (by kernel_rfl) (an := an34) (by rw [S34_eq]; exact hk)

/- (palings/ssa.Func).Params -/
def an21 : An := (.two .nil (.two (.two .nil (.two (.two .nil .nil) .nil)) (.two .nil .nil)))
def S21 (p0_0 : ByteArray) (p0_1 : Sl) (h : V) (R : Value → V → Prop) : Prop :=
  New h (.cells #[(.string p0_0), (.slice p0_1.a p0_1.n p0_1.c)] 46) fun r1 h1 =>
  Ld h1 (Addr.add (⟨r1, 0, none⟩) 1) .sl fun (x4 : Sl) =>
  cond ((((x4.n : Nat) : Int)) == ((0 : Int)))
  (Wk h1 fun h2 => R (.slice none 0 0) h2)
  (Ld h1 (Addr.add (⟨r1, 0, none⟩) 1) .sl fun (x8 : Sl) =>
  Ix x8 ((0 : Int)) 6 fun a9 =>
  Ld h1 (Addr.add a9 0) .sl fun (x11 : Sl) =>
  Wk h1 fun h3 => R (.slice x11.a x11.n x11.c) h3)
theorem S21_eq (p0_0 : ByteArray) (p0_1 : Sl) (h : V) (R : Value → V → Prop) : ABody Try.prog an21 Try.f21 [(.agg ⟨[(.string p0_0), (.slice p0_1.a p0_1.n p0_1.c)]⟩)] h R = S21 p0_0 p0_1 h R := by kernel_rfl
theorem S21_ok (p0_0 : ByteArray) (p0_1 : Sl) (h : V) (R : Value → V → Prop) (hk : S21 p0_0 p0_1 h R) : ACalls Try.prog 21 [(.agg ⟨[(.string p0_0), (.slice p0_1.a p0_1.n p0_1.c)]⟩)] h R :=
  ABody_sound mixed Try.func21 Try.call21 (by kernel_rfl) (by kernel_rfl) (an := an21) (by rw [S21_eq]; exact hk)

/- (palings/ssa.Func).Most -/
def an13 : An := (.two .nil (.two .nil (.two (.two .nil (.one (.loop [(3, (.one (.int .i64))), (13, (.one (.int .i64)))] (.two .nil (.two (.two .nil .nil) (.two (.one (.two .nil (.two (.two .nil (.one (.loop [(3, (.one (.int .i64))), (20, (.one (.int .i64)))] (.two .nil (.two (.two .nil .nil) (.two (.one (.two .nil .nil)) .nil)))))) (.two .nil (.one (.loop [(3, (.one (.int .i64))), (31, (.one (.int .i64)))] (.two .nil (.two (.two .nil .nil) (.two (.one (.two .nil .nil)) .nil))))))))) .nil)))))) (.two .nil .nil))))
def S13 (p0_0 : ByteArray) (p0_1 : Sl) (h : V) (R : Value → V → Prop) : Prop :=
  New h (.cells #[(.string p0_0), (.slice p0_1.a p0_1.n p0_1.c)] 46) fun r1 h1 =>
  Ld h1 (Addr.add (⟨r1, 0, none⟩) 1) .sl fun (x11 : Sl) =>
  Lp (σ := (Int × Int × Unit)) (fun K s h2 =>
  cond (decide (s.2.1 < (((x11.n : Nat) : Int))))
  (Ix x11 s.2.1 6 fun a15 =>
  LdA h2 a15 [.sl, .sl, (.int .i64), (.int .i64), .sl, (.int .i64)] fun (x16 : ((Sl) × (Sl) × (Int) × (Int) × (Sl) × (Int) × Unit)) =>
  New h2 (.cells #[(.slice none 0 0), (.slice none 0 0), (.int .i64 ((0 : Int))), (.int .i64 ((0 : Int))), (.slice none 0 0), (.int .i64 ((0 : Int)))] 55) fun r5 h3 =>
  StL h3 (⟨r5, 0, none⟩) 0 [(.slice x16.1.a x16.1.n x16.1.c), (.slice x16.2.1.a x16.2.1.n x16.2.1.c), (.int .i64 x16.2.2.1), (.int .i64 x16.2.2.2.1), (.slice x16.2.2.2.2.1.a x16.2.2.2.2.1.n x16.2.2.2.2.1.c), (.int .i64 x16.2.2.2.2.2.1)] fun h4 =>
  Ld h4 (Addr.add (⟨r5, 0, none⟩) 0) .sl fun (x18 : Sl) =>
  Lp (σ := (Int × Int × Unit)) (fun K_1 s_1 h5 =>
  cond (decide (s_1.2.1 < (((x18.n : Nat) : Int))))
  (Ix x18 s_1.2.1 1 fun a22 =>
  Ld h5 a22 (.int .i64) fun (x23 : Int) =>
  Wk h5 fun h6 => K_1 (if x23 > s_1.1 then x23 else s_1.1, IntKind.wrap .i64 (s_1.2.1 + ((1 : Int))), ()) h6)
  (Ld h5 (Addr.add (⟨r5, 0, none⟩) 1) .sl fun (x29 : Sl) =>
  Lp (σ := (Int × Int × Unit)) (fun K_2 s_2 h7 =>
  cond (decide (s_2.2.1 < (((x29.n : Nat) : Int))))
  (Ix x29 s_2.2.1 7 fun a33 =>
  LdA h7 a33 [(.int .i64), (.int .i64), .sl, (.int .i64), (.int .i64), (.int .i64), (.int .i64)] fun (x34 : ((Int) × (Int) × (Sl) × (Int) × (Int) × (Int) × (Int) × Unit)) =>
  New h7 (.cells #[(.int .i64 ((0 : Int))), (.int .i64 ((0 : Int))), (.slice none 0 0), (.int .i64 ((0 : Int))), (.int .i64 ((0 : Int))), (.int .i64 ((0 : Int))), (.int .i64 ((0 : Int)))] 60) fun r9 h8 =>
  StL h8 (⟨r9, 0, none⟩) 0 [(.int .i64 x34.1), (.int .i64 x34.2.1), (.slice x34.2.2.1.a x34.2.2.1.n x34.2.2.1.c), (.int .i64 x34.2.2.2.1), (.int .i64 x34.2.2.2.2.1), (.int .i64 x34.2.2.2.2.2.1), (.int .i64 x34.2.2.2.2.2.2.1)] fun h9 =>
  Ld h9 (Addr.add (⟨r9, 0, none⟩) 1) (.int .i64) fun (x37 : Int) =>
  Wk h9 fun h10 => K_2 (if x37 > s_2.1 then x37 else s_2.1, IntKind.wrap .i64 (s_2.2.1 + ((1 : Int))), ()) h10)
  (Wk h7 fun h11 => K (s_2.1, IntKind.wrap .i64 (s.2.1 + ((1 : Int))), ()) h11))
  (s_1.1, (0 : Int), ()) h5))
  (s.1, (0 : Int), ()) h4)
  (Wk h2 fun h12 => R (.int .i64 s.1) h12))
  ((0 : Int), (0 : Int), ()) h1
theorem S13_eq (p0_0 : ByteArray) (p0_1 : Sl) (h : V) (R : Value → V → Prop) : ABody Try.prog an13 Try.f13 [(.agg ⟨[(.string p0_0), (.slice p0_1.a p0_1.n p0_1.c)]⟩)] h R = S13 p0_0 p0_1 h R := by kernel_rfl
theorem S13_ok (p0_0 : ByteArray) (p0_1 : Sl) (h : V) (R : Value → V → Prop) (hk : S13 p0_0 p0_1 h R) : ACalls Try.prog 13 [(.agg ⟨[(.string p0_0), (.slice p0_1.a p0_1.n p0_1.c)]⟩)] h R :=
  ABody_sound mixed Try.func13 Try.call13 (by kernel_rfl) (by kernel_rfl) (an := an13) (by rw [S13_eq]; exact hk)

/- palings/taint.Writes -/
def an18 : An := (.two .nil (.two .nil (.two .nil (.two (.two .nil (.one (.loop [(4, (.one .bool)), (19, (.one (.int .i64)))] (.two .nil (.two (.two .nil .nil) (.two (.one (.two .nil (.two .nil (.one (.loop [(4, (.one .bool)), (26, (.one (.int .i64)))] (.two .nil (.two (.two .nil .nil) (.two (.one (.two .nil (.two .nil (.one (.loop [(4, (.one .bool)), (33, (.one (.int .i64)))] (.two .nil (.two (.two .nil .nil) (.two (.one (.two .nil (.cut [(4, (.one .bool))] .nil (.two .nil (.two .nil .nil))))) .nil)))))))) .nil)))))))) .nil)))))) (.two (.two .nil (.one (.loop [(67, (.one (.int .i64)))] (.two .nil (.two (.two .nil .nil) (.two (.one (.two .nil .nil)) .nil)))))) (.two .nil .nil))))))
def S18 (p0_0 : Sl) (p0_1 : Sl) (p0_2 : Int) (h : V) (R : Value → V → Prop) : Prop :=
  New h (.cells #[(.slice p0_0.a p0_0.n p0_0.c), (.slice p0_1.a p0_1.n p0_1.c), (.int .i64 p0_2)] 25) fun r1 h1 =>
  Ld h1 (Addr.add (⟨r1, 0, none⟩) 0) .sl fun (x13 : Sl) =>
  MkSl h1 (((x13.n : Nat) : Int)) (((x13.n : Nat) : Int)) [(.bool false)] 4 1 fun s15 h2 =>
  Ld h2 (Addr.add (⟨r1, 0, none⟩) 1) .sl fun (x17 : Sl) =>
  Lp (σ := (Bool × Int × Unit)) (fun K s h3 =>
  cond (decide (s.2.1 < (((x17.n : Nat) : Int))))
  (Ix x17 s.2.1 2 fun a21 =>
  LdA h3 a21 [.str, .sl] fun (x22 : ((ByteArray) × (Sl) × Unit)) =>
  New h3 (.cells #[(.string (⟨#[]⟩)), (.slice none 0 0)] 46) fun r6 h4 =>
  StL h4 (⟨r6, 0, none⟩) 0 [(.string x22.1), (.slice x22.2.1.a x22.2.1.n x22.2.1.c)] fun h5 =>
  Ld h5 (Addr.add (⟨r6, 0, none⟩) 1) .sl fun (x24 : Sl) =>
  Lp (σ := (Bool × Int × Unit)) (fun K_1 s_1 h6 =>
  cond (decide (s_1.2.1 < (((x24.n : Nat) : Int))))
  (Ix x24 s_1.2.1 6 fun a28 =>
  LdA h6 a28 [.sl, .sl, (.int .i64), (.int .i64), .sl, (.int .i64)] fun (x29 : ((Sl) × (Sl) × (Int) × (Int) × (Sl) × (Int) × Unit)) =>
  New h6 (.cells #[(.slice none 0 0), (.slice none 0 0), (.int .i64 ((0 : Int))), (.int .i64 ((0 : Int))), (.slice none 0 0), (.int .i64 ((0 : Int)))] 55) fun r8 h7 =>
  StL h7 (⟨r8, 0, none⟩) 0 [(.slice x29.1.a x29.1.n x29.1.c), (.slice x29.2.1.a x29.2.1.n x29.2.1.c), (.int .i64 x29.2.2.1), (.int .i64 x29.2.2.2.1), (.slice x29.2.2.2.2.1.a x29.2.2.2.2.1.n x29.2.2.2.2.1.c), (.int .i64 x29.2.2.2.2.2.1)] fun h8 =>
  Ld h8 (Addr.add (⟨r8, 0, none⟩) 1) .sl fun (x31 : Sl) =>
  Lp (σ := (Bool × Int × Unit)) (fun K_2 s_2 h9 =>
  cond (decide (s_2.2.1 < (((x31.n : Nat) : Int))))
  (Ix x31 s_2.2.1 7 fun a35 =>
  LdA h9 a35 [(.int .i64), (.int .i64), .sl, (.int .i64), (.int .i64), (.int .i64), (.int .i64)] fun (x36 : ((Int) × (Int) × (Sl) × (Int) × (Int) × (Int) × (Int) × Unit)) =>
  New h9 (.cells #[(.int .i64 ((0 : Int))), (.int .i64 ((0 : Int))), (.slice none 0 0), (.int .i64 ((0 : Int))), (.int .i64 ((0 : Int))), (.int .i64 ((0 : Int))), (.int .i64 ((0 : Int)))] 60) fun r10 h10 =>
  StL h10 (⟨r10, 0, none⟩) 0 [(.int .i64 x36.1), (.int .i64 x36.2.1), (.slice x36.2.2.1.a x36.2.2.1.n x36.2.2.1.c), (.int .i64 x36.2.2.2.1), (.int .i64 x36.2.2.2.2.1), (.int .i64 x36.2.2.2.2.2.1), (.int .i64 x36.2.2.2.2.2.2.1)] fun h11 =>
  Cut (σ := (Bool × Unit)) (fun s_3 h12 =>
  Ld h12 (Addr.add (⟨r10, 0, none⟩) 0) (.int .i64) fun (x44 : Int) =>
  cond (x44 == ((4 : Int)))
  (Ld h12 (Addr.add (⟨r10, 0, none⟩) 5) (.int .i64) fun (x48 : Int) =>
  cond (decide (x48 ≥ ((0 : Int))))
  (Ld h12 (Addr.add (⟨r10, 0, none⟩) 5) (.int .i64) fun (x53 : Int) =>
  cond (decide (x53 < (((s15.n : Nat) : Int))))
  (Ld h12 (Addr.add (⟨r10, 0, none⟩) 5) (.int .i64) fun (x60 : Int) =>
  Ix s15 x60 1 fun a61 =>
  StL h12 a61 0 [(.bool true)] fun h13 =>
  Wk h13 fun h14 => K_2 (s_3.1, IntKind.wrap .i64 (s_2.2.1 + ((1 : Int))), ()) h14)
  (Wk h12 fun h15 => K_2 (s_3.1, IntKind.wrap .i64 (s_2.2.1 + ((1 : Int))), ()) h15))
  (Wk h12 fun h16 => K_2 (s_3.1, IntKind.wrap .i64 (s_2.2.1 + ((1 : Int))), ()) h16))
  (Wk h12 fun h17 => K_2 (s_3.1, IntKind.wrap .i64 (s_2.2.1 + ((1 : Int))), ()) h17)) fun J =>
  cond s_2.1
  (Wk h11 fun h18 => J (true, ()) h18)
  (Ld h11 (Addr.add (⟨r10, 0, none⟩) 0) (.int .i64) fun (x40 : Int) =>
  Wk h11 fun h19 => J (x40 == ((6 : Int)), ()) h19))
  (Wk h9 fun h20 => K_1 (s_2.1, IntKind.wrap .i64 (s_1.2.1 + ((1 : Int))), ()) h20))
  (s_1.1, (0 : Int), ()) h8)
  (Wk h6 fun h21 => K (s_1.1, IntKind.wrap .i64 (s.2.1 + ((1 : Int))), ()) h21))
  (s.1, (0 : Int), ()) h5)
  (Lp (σ := (Int × Unit)) (fun K_3 s_4 h22 =>
  cond (decide (s_4.1 < (((s15.n : Nat) : Int))))
  (Ix s15 s_4.1 1 fun a74 =>
  Ld h22 a74 .bool fun (x75 : Bool) =>
  cond x75
  (Ix s15 s_4.1 1 fun a79 =>
  StL h22 a79 0 [(.bool true)] fun h23 =>
  Wk h23 fun h24 => K_3 (IntKind.wrap .i64 (s_4.1 + ((1 : Int))), ()) h24)
  (Ix s15 s_4.1 1 fun a79_1 =>
  StL h22 a79_1 0 [(.bool s.1)] fun h25 =>
  Wk h25 fun h26 => K_3 (IntKind.wrap .i64 (s_4.1 + ((1 : Int))), ()) h26))
  (Wk h22 fun h27 => R (.slice s15.a s15.n s15.c) h27))
  ((0 : Int), ()) h3))
  (false, (0 : Int), ()) h2
theorem S18_eq (p0_0 : Sl) (p0_1 : Sl) (p0_2 : Int) (h : V) (R : Value → V → Prop) : ABody Try.prog an18 Try.f18 [(.agg ⟨[(.slice p0_0.a p0_0.n p0_0.c), (.slice p0_1.a p0_1.n p0_1.c), (.int .i64 p0_2)]⟩)] h R = S18 p0_0 p0_1 p0_2 h R := by kernel_rfl
theorem S18_ok (p0_0 : Sl) (p0_1 : Sl) (p0_2 : Int) (h : V) (R : Value → V → Prop) (hk : S18 p0_0 p0_1 p0_2 h R) : ACalls Try.prog 18 [(.agg ⟨[(.slice p0_0.a p0_0.n p0_0.c), (.slice p0_1.a p0_1.n p0_1.c), (.int .i64 p0_2)]⟩)] h R :=
  ABody_sound mixed Try.func18 Try.call18 (by kernel_rfl) (by kernel_rfl) (an := an18) (by rw [S18_eq]; exact hk)

/- (palings/ssa.Func).Reach -/
def an19 : An := (.two .nil (.two .nil (.two (.two .nil (.two (.two .nil .nil) .nil)) (.two .nil (.two .nil (.two (.one (.loop [(4, (.one .sl))] (.two (.two .nil (.two .nil .nil)) (.one (.two (.perm [0, 1, 2, 3, 4, 5, 6, 7, 8] []) (.two .nil (.two .nil (.one (.loop [(4, (.one .sl)), (35, (.one (.int .i64)))] (.two .nil (.two (.two .nil .nil) (.two (.one (.two .nil (.cut [(56, (.one .bool))] .nil (.two (.two .nil .nil) .nil)))) .nil)))))))))))) (.two .nil .nil)))))))
def S19 (p0_0 : ByteArray) (p0_1 : Sl) (h : V) (R : Value → V → Prop) : Prop :=
  New h (.cells #[(.string p0_0), (.slice p0_1.a p0_1.n p0_1.c)] 46) fun r1 h1 =>
  Ld h1 (Addr.add (⟨r1, 0, none⟩) 1) .sl fun (x9 : Sl) =>
  MkSl h1 (((x9.n : Nat) : Int)) (((x9.n : Nat) : Int)) [(.bool false)] 4 1 fun s11 h2 =>
  cond ((((s11.n : Nat) : Int)) == ((0 : Int)))
  (Wk h2 fun h3 => R (.slice s11.a s11.n s11.c) h3)
  (Ix s11 ((0 : Int)) 1 fun a17 =>
  StL h2 a17 0 [(.bool true)] fun h4 =>
  New h4 (.cells #[(.int .i64 ((0 : Int)))] 3) fun r18 h5 =>
  Lp (σ := (Sl × Unit)) (fun K s h6 =>
  cond (decide ((((s.1.n : Nat) : Int)) > ((0 : Int))))
  (Ld h6 (Addr.add (⟨r1, 0, none⟩) 1) .sl fun (x23 : Sl) =>
  Ix s.1 ((0 : Int)) 1 fun a25 =>
  Ld h6 a25 (.int .i64) fun (x26 : Int) =>
  Ix x23 x26 6 fun a27 =>
  LdA h6 a27 [.sl, .sl, (.int .i64), (.int .i64), .sl, (.int .i64)] fun (x28 : ((Sl) × (Sl) × (Int) × (Int) × (Sl) × (Int) × Unit)) =>
  New h6 (.cells #[(.slice none 0 0), (.slice none 0 0), (.int .i64 ((0 : Int))), (.int .i64 ((0 : Int))), (.slice none 0 0), (.int .i64 ((0 : Int)))] 55) fun r5 h7 =>
  StL h7 (⟨r5, 0, none⟩) 0 [(.slice x28.1.a x28.1.n x28.1.c), (.slice x28.2.1.a x28.2.1.n x28.2.1.c), (.int .i64 x28.2.2.1), (.int .i64 x28.2.2.2.1), (.slice x28.2.2.2.2.1.a x28.2.2.2.2.1.n x28.2.2.2.2.1.c), (.int .i64 x28.2.2.2.2.2.1)] fun h8 =>
  Slc s.1 (some ((1 : Int))) none none 1 fun s30 =>
  Ld h8 (Addr.add (Addr.add (⟨r5, 0, none⟩) 2) 2) .sl fun (x33 : Sl) =>
  Lp (σ := (Sl × Int × Unit)) (fun K_1 s_1 h9 =>
  cond (decide (s_1.2.1 < (((x33.n : Nat) : Int))))
  (Ix x33 s_1.2.1 2 fun a37 =>
  LdA h9 a37 [(.int .i64), .sl] fun (x38 : ((Int) × (Sl) × Unit)) =>
  New h9 (.cells #[(.int .i64 ((0 : Int))), (.slice none 0 0)] 74) fun r7 h10 =>
  StL h10 (⟨r7, 0, none⟩) 0 [(.int .i64 x38.1), (.slice x38.2.1.a x38.2.1.n x38.2.1.c)] fun h11 =>
  Cut (σ := (Bool × Unit)) (fun s_2 h12 =>
  cond s_2.1
  (Ld h12 (Addr.add (⟨r7, 0, none⟩) 0) (.int .i64) fun (x59 : Int) =>
  Ix s11 x59 1 fun a60 =>
  StL h12 a60 0 [(.bool true)] fun h13 =>
  Ld h13 (Addr.add (⟨r7, 0, none⟩) 0) (.int .i64) fun (x63 : Int) =>
  New h13 (.cells #[(.int .i64 x63)] 3) fun r64 h14 =>
  App h14 s_1.1 ⟨(some ⟨r64, 0, none⟩), 1, 1⟩ 3 1 8 [(.int .i64 ((0 : Int)))] fun s65 h15 =>
  Wk h15 fun h16 => K_1 (s65, IntKind.wrap .i64 (s_1.2.1 + ((1 : Int))), ()) h16)
  (Wk h12 fun h17 => K_1 (s_1.1, IntKind.wrap .i64 (s_1.2.1 + ((1 : Int))), ()) h17)) fun J =>
  Ld h11 (Addr.add (⟨r7, 0, none⟩) 0) (.int .i64) fun (x40 : Int) =>
  cond (decide (x40 ≥ ((0 : Int))))
  (Ld h11 (Addr.add (⟨r7, 0, none⟩) 0) (.int .i64) fun (x44 : Int) =>
  cond (decide (x44 < (((s11.n : Nat) : Int))))
  (Ld h11 (Addr.add (⟨r7, 0, none⟩) 0) (.int .i64) fun (x52 : Int) =>
  Ix s11 x52 1 fun a53 =>
  Ld h11 a53 .bool fun (x54 : Bool) =>
  Wk h11 fun h18 => J (!x54, ()) h18)
  (Wk h11 fun h19 => J (false, ()) h19))
  (Wk h11 fun h20 => J (false, ()) h20))
  (Wk h9 fun h21 => K (s_1.1, ()) h21))
  (s30, (0 : Int), ()) h8)
  (Wk h6 fun h22 => R (.slice s11.a s11.n s11.c) h22))
  (⟨(some ⟨r18, 0, none⟩), 1, 1⟩, ()) h5)
theorem S19_eq (p0_0 : ByteArray) (p0_1 : Sl) (h : V) (R : Value → V → Prop) : ABody Try.prog an19 Try.f19 [(.agg ⟨[(.string p0_0), (.slice p0_1.a p0_1.n p0_1.c)]⟩)] h R = S19 p0_0 p0_1 h R := by kernel_rfl
theorem S19_ok (p0_0 : ByteArray) (p0_1 : Sl) (h : V) (R : Value → V → Prop) (hk : S19 p0_0 p0_1 h R) : ACalls Try.prog 19 [(.agg ⟨[(.string p0_0), (.slice p0_1.a p0_1.n p0_1.c)]⟩)] h R :=
  ABody_sound mixed Try.func19 Try.call19 (by kernel_rfl) (by kernel_rfl) (an := an19) (by rw [S19_eq]; exact hk)

/- slices.ContainsFunc[[]palings/ssa.Ins,palings/ssa.Ins] -/
def an24 : An := (.two .nil (.two .nil .nil))
def S24 (p0 : Sl) (p1 : Value) (h : V) (R : Value → V → Prop) : Prop :=
  CallK Try.prog 40 [(.slice p0.a p0.n p0.c), p1] h (.un (.one (.int .i64))) fun (x7 : Int) h1 =>
  Wk h1 fun h2 => R (.bool (decide (x7 ≥ ((0 : Int))))) h2
theorem S24_eq (p0 : Sl) (p1 : Value) (h : V) (R : Value → V → Prop) : ABody Try.prog an24 Try.f24 [(.slice p0.a p0.n p0.c), p1] h R = S24 p0 p1 h R := by kernel_rfl
theorem S24_ok (p0 : Sl) (p1 : Value) (h : V) (R : Value → V → Prop) (hk : S24 p0 p1 h R) : ACalls Try.prog 24 [(.slice p0.a p0.n p0.c), p1] h R :=
  ABody_sound mixed Try.func24 Try.call24 (by kernel_rfl) (by kernel_rfl) (an := an24) (by rw [S24_eq]; exact hk)

/- (palings/ssa.Prog).Check.1 -/
def an25 : An := (.two .nil (.two .nil .nil))
def S25 (p0_0 : Int) (p0_1 : Int) (p0_2 : Sl) (p0_3 : Int) (p0_4 : Int) (p0_5 : Int) (p0_6 : Int) (c0 : Addr) (h : V) (R : Value → V → Prop) : Prop :=
  New h (.cells #[(.int .i64 p0_0), (.int .i64 p0_1), (.slice p0_2.a p0_2.n p0_2.c), (.int .i64 p0_3), (.int .i64 p0_4), (.int .i64 p0_5), (.int .i64 p0_6)] 60) fun r2 h1 =>
  LdA h1 c0 [.sl, .sl, (.int .i64)] fun (x4 : ((Sl) × (Sl) × (Int) × Unit)) =>
  LdA h1 (⟨r2, 0, none⟩) [(.int .i64), (.int .i64), .sl, (.int .i64), (.int .i64), (.int .i64), (.int .i64)] fun (x5 : ((Int) × (Int) × (Sl) × (Int) × (Int) × (Int) × (Int) × Unit)) =>
  CallK Try.prog 26 [(.agg ⟨[(.slice x4.1.a x4.1.n x4.1.c), (.slice x4.2.1.a x4.2.1.n x4.2.1.c), (.int .i64 x4.2.2.1)]⟩), (.agg ⟨[(.int .i64 x5.1), (.int .i64 x5.2.1), (.slice x5.2.2.1.a x5.2.2.1.n x5.2.2.1.c), (.int .i64 x5.2.2.2.1), (.int .i64 x5.2.2.2.2.1), (.int .i64 x5.2.2.2.2.2.1), (.int .i64 x5.2.2.2.2.2.2.1)]⟩)] h1 (.un (.one .bool)) fun (x6 : Bool) h2 =>
  Wk h2 fun h3 => R (.bool (!x6)) h3
theorem S25_eq (p0_0 : Int) (p0_1 : Int) (p0_2 : Sl) (p0_3 : Int) (p0_4 : Int) (p0_5 : Int) (p0_6 : Int) (c0 : Addr) (h : V) (R : Value → V → Prop) : ABody Try.prog an25 Try.f25 [(.agg ⟨[(.int .i64 p0_0), (.int .i64 p0_1), (.slice p0_2.a p0_2.n p0_2.c), (.int .i64 p0_3), (.int .i64 p0_4), (.int .i64 p0_5), (.int .i64 p0_6)]⟩), (.pointer (some c0))] h R = S25 p0_0 p0_1 p0_2 p0_3 p0_4 p0_5 p0_6 c0 h R := by kernel_rfl
theorem S25_ok (p0_0 : Int) (p0_1 : Int) (p0_2 : Sl) (p0_3 : Int) (p0_4 : Int) (p0_5 : Int) (p0_6 : Int) (c0 : Addr) (h : V) (R : Value → V → Prop) (hk : S25 p0_0 p0_1 p0_2 p0_3 p0_4 p0_5 p0_6 c0 h R) : ACalls Try.prog 25 [(.agg ⟨[(.int .i64 p0_0), (.int .i64 p0_1), (.slice p0_2.a p0_2.n p0_2.c), (.int .i64 p0_3), (.int .i64 p0_4), (.int .i64 p0_5), (.int .i64 p0_6)]⟩), (.pointer (some c0))] h R :=
  ABody_sound mixed Try.func25 Try.call25 (by kernel_rfl) (by kernel_rfl) (an := an25) (by rw [S25_eq]; exact hk)

/- (palings/ssa.Prog).right -/
def an26 : An := (.two .nil (.two .nil (.cut [] (.two .nil (.two (.two .nil .nil) .nil)) (.two (.two .nil (.one (.two .nil (.two (.two .nil .nil) (.cut [(45, (.one .bool))] (.two .nil (.two .nil .nil)) (.two (.two .nil .nil) (.cut [(69, (.one .bool))] (.two .nil (.two .nil .nil)) (.two (.two .nil .nil) (.two .nil (.two (.two (.perm [0, 1, 2, 3, 4, 5, 6, 7, 8, 9, 10, 11, 12, 13, 14, 15, 16, 17, 18, 19, 20, 21, 22, 23, 24, 25, 26, 27, 28, 29, 30, 31, 32, 33, 34, 35, 36, 37, 38, 39] []) .nil) .nil)))))))))) (.two .nil .nil)))))
def S26 (p0_0 : Sl) (p0_1 : Sl) (p0_2 : Int) (p1_0 : Int) (p1_1 : Int) (p1_2 : Sl) (p1_3 : Int) (p1_4 : Int) (p1_5 : Int) (p1_6 : Int) (h : V) (R : Value → V → Prop) : Prop :=
  New h (.cells #[(.slice p0_0.a p0_0.n p0_0.c), (.slice p0_1.a p0_1.n p0_1.c), (.int .i64 p0_2)] 25) fun r2 h1 =>
  New h1 (.cells #[(.int .i64 p1_0), (.int .i64 p1_1), (.slice p1_2.a p1_2.n p1_2.c), (.int .i64 p1_3), (.int .i64 p1_4), (.int .i64 p1_5), (.int .i64 p1_6)] 60) fun r3 h2 =>
  Ld h2 (Addr.add (⟨r3, 0, none⟩) 0) (.int .i64) fun (x9 : Int) =>
  CallK Try.prog 41 [(.int .i64 x9)] h2 (.tup [(.one (.int .i64)), (.one .bool)]) fun (x10 : (Int × Bool × Unit)) h3 =>
  Cut (σ := (Unit)) (fun _ h4 =>
  Ld h4 (Addr.add (⟨r3, 0, none⟩) 0) (.int .i64) fun (x39 : Int) =>
  cond (x39 == ((2 : Int)))
  (Ld h4 (Addr.add (⟨r3, 0, none⟩) 4) (.int .i64) fun (x43 : Int) =>
  CallK Try.prog 42 [(.int .i64 x43)] h4 (.un (.one .bool)) fun (x44 : Bool) h5 =>
  Wk h5 fun h6 => R (.bool x44) h6)
  (Cut (σ := (Bool × Unit)) (fun s_1 h7 =>
  cond s_1.1
  (Ld h7 (Addr.add (⟨r3, 0, none⟩) 5) (.int .i64) fun (x49 : Int) =>
  cond (decide (x49 ≥ ((0 : Int))))
  (Ld h7 (Addr.add (⟨r3, 0, none⟩) 5) (.int .i64) fun (x53 : Int) =>
  Ld h7 (Addr.add (⟨r2, 0, none⟩) 0) .sl fun (x55 : Sl) =>
  cond (decide (x53 < (((x55.n : Nat) : Int))))
  (Ld h7 (Addr.add (⟨r2, 0, none⟩) 0) .sl fun (x61 : Sl) =>
  Ld h7 (Addr.add (⟨r3, 0, none⟩) 5) (.int .i64) fun (x63 : Int) =>
  Ix x61 x63 3 fun a64 =>
  Ld h7 (Addr.add a64 2) (.int .i64) fun (x66 : Int) =>
  Wk h7 fun h8 => R (.bool (x66 == ((0 : Int)))) h8)
  (Wk h7 fun h9 => R (.bool false) h9))
  (Wk h7 fun h10 => R (.bool false) h10))
  (Cut (σ := (Bool × Unit)) (fun s_2 h11 =>
  cond s_2.1
  (Ld h11 (Addr.add (⟨r3, 0, none⟩) 5) (.int .i64) fun (x73 : Int) =>
  cond (decide (x73 ≥ ((0 : Int))))
  (Ld h11 (Addr.add (⟨r3, 0, none⟩) 5) (.int .i64) fun (x77 : Int) =>
  Ld h11 (Addr.add (⟨r2, 0, none⟩) 0) .sl fun (x79 : Sl) =>
  cond (decide (x77 < (((x79.n : Nat) : Int))))
  (Ld h11 (Addr.add (⟨r2, 0, none⟩) 0) .sl fun (x85 : Sl) =>
  Ld h11 (Addr.add (⟨r3, 0, none⟩) 5) (.int .i64) fun (x87 : Int) =>
  Ix x85 x87 3 fun a88 =>
  Ld h11 (Addr.add a88 2) (.int .i64) fun (x90 : Int) =>
  Wk h11 fun h12 => R (.bool (decide (x90 > ((0 : Int))))) h12)
  (Wk h11 fun h13 => R (.bool false) h13))
  (Wk h11 fun h14 => R (.bool false) h14))
  (cond (x39 == ((7 : Int)))
  (Ld h11 (Addr.add (⟨r3, 0, none⟩) 6) (.int .i64) fun (x96 : Int) =>
  cond (decide (x96 ≥ ((0 : Int))))
  (Ld h11 (Addr.add (⟨r3, 0, none⟩) 6) (.int .i64) fun (x100 : Int) =>
  Ld h11 (Addr.add (⟨r2, 0, none⟩) 1) .sl fun (x102 : Sl) =>
  cond (decide (x100 < (((x102.n : Nat) : Int))))
  (Ld h11 (Addr.add (⟨r2, 0, none⟩) 1) .sl fun (x108 : Sl) =>
  Ld h11 (Addr.add (⟨r3, 0, none⟩) 6) (.int .i64) fun (x110 : Int) =>
  Ix x108 x110 2 fun a111 =>
  Ld h11 (Addr.add a111 1) .sl fun (x113 : Sl) =>
  cond (decide ((((x113.n : Nat) : Int)) > ((0 : Int))))
  (Ld h11 (Addr.add (⟨r3, 0, none⟩) 2) .sl fun (x119 : Sl) =>
  Ld h11 (Addr.add (⟨r2, 0, none⟩) 1) .sl fun (x122 : Sl) =>
  Ld h11 (Addr.add (⟨r3, 0, none⟩) 6) (.int .i64) fun (x124 : Int) =>
  Ix x122 x124 2 fun a125 =>
  Ld h11 (Addr.add a125 1) .sl fun (x127 : Sl) =>
  Ix x127 ((0 : Int)) 6 fun a128 =>
  Ld h11 (Addr.add a128 0) .sl fun (x130 : Sl) =>
  Wk h11 fun h15 => R (.bool ((((x119.n : Nat) : Int)) == (((x130.n : Nat) : Int)))) h15)
  (Wk h11 fun h16 => R (.bool false) h16))
  (Wk h11 fun h17 => R (.bool false) h17))
  (Wk h11 fun h18 => R (.bool false) h18))
  (Wk h11 fun h19 => R (.bool true) h19))) fun J_2 =>
  cond (x39 == ((5 : Int)))
  (Wk h7 fun h20 => J_2 (x39 == ((5 : Int)), ()) h20)
  (Wk h7 fun h21 => J_2 (x39 == ((6 : Int)), ()) h21))) fun J_1 =>
  cond (x39 == ((3 : Int)))
  (Wk h4 fun h22 => J_1 (x39 == ((3 : Int)), ()) h22)
  (Wk h4 fun h23 => J_1 (x39 == ((4 : Int)), ()) h23))) fun J =>
  cond (x10.1 == ((-2 : Int)))
  (Wk h3 fun h24 => R (.bool false) h24)
  (cond (decide (x10.1 ≥ ((0 : Int))))
  (Ld h3 (Addr.add (⟨r3, 0, none⟩) 2) .sl fun (x20 : Sl) =>
  cond ((((x20.n : Nat) : Int)) != x10.1)
  (Wk h3 fun h25 => R (.bool false) h25)
  (Ld h3 (Addr.add (⟨r3, 0, none⟩) 1) (.int .i64) fun (x29 : Int) =>
  cond (!(x10.2.1 == (decide (x29 > ((0 : Int))))))
  (Wk h3 fun h26 => R (.bool false) h26)
  (Ld h3 (Addr.add (⟨r3, 0, none⟩) 1) (.int .i64) fun (x35 : Int) =>
  cond (decide (x35 < ((0 : Int))))
  (Wk h3 fun h27 => R (.bool false) h27)
  (Wk h3 fun h28 => J (()) h28))))
  (Ld h3 (Addr.add (⟨r3, 0, none⟩) 1) (.int .i64) fun (x29_1 : Int) =>
  cond (!(x10.2.1 == (decide (x29_1 > ((0 : Int))))))
  (Wk h3 fun h29 => R (.bool false) h29)
  (Ld h3 (Addr.add (⟨r3, 0, none⟩) 1) (.int .i64) fun (x35_1 : Int) =>
  cond (decide (x35_1 < ((0 : Int))))
  (Wk h3 fun h30 => R (.bool false) h30)
  (Wk h3 fun h31 => J (()) h31))))
theorem S26_eq (p0_0 : Sl) (p0_1 : Sl) (p0_2 : Int) (p1_0 : Int) (p1_1 : Int) (p1_2 : Sl) (p1_3 : Int) (p1_4 : Int) (p1_5 : Int) (p1_6 : Int) (h : V) (R : Value → V → Prop) : ABody Try.prog an26 Try.f26 [(.agg ⟨[(.slice p0_0.a p0_0.n p0_0.c), (.slice p0_1.a p0_1.n p0_1.c), (.int .i64 p0_2)]⟩), (.agg ⟨[(.int .i64 p1_0), (.int .i64 p1_1), (.slice p1_2.a p1_2.n p1_2.c), (.int .i64 p1_3), (.int .i64 p1_4), (.int .i64 p1_5), (.int .i64 p1_6)]⟩)] h R = S26 p0_0 p0_1 p0_2 p1_0 p1_1 p1_2 p1_3 p1_4 p1_5 p1_6 h R := by kernel_rfl
theorem S26_ok (p0_0 : Sl) (p0_1 : Sl) (p0_2 : Int) (p1_0 : Int) (p1_1 : Int) (p1_2 : Sl) (p1_3 : Int) (p1_4 : Int) (p1_5 : Int) (p1_6 : Int) (h : V) (R : Value → V → Prop) (hk : S26 p0_0 p0_1 p0_2 p1_0 p1_1 p1_2 p1_3 p1_4 p1_5 p1_6 h R) : ACalls Try.prog 26 [(.agg ⟨[(.slice p0_0.a p0_0.n p0_0.c), (.slice p0_1.a p0_1.n p0_1.c), (.int .i64 p0_2)]⟩), (.agg ⟨[(.int .i64 p1_0), (.int .i64 p1_1), (.slice p1_2.a p1_2.n p1_2.c), (.int .i64 p1_3), (.int .i64 p1_4), (.int .i64 p1_5), (.int .i64 p1_6)]⟩)] h R :=
  ABody_sound mixed Try.func26 Try.call26 (by kernel_rfl) (by kernel_rfl) (an := an26) (by rw [S26_eq]; exact hk)

/- slices.IndexFunc[[]palings/ssa.Ins,palings/ssa.Ins] -/
def an40 : An := (.two .nil (.two (.two .nil (.one (.loop [(8, (.one (.int .i64)))] (.two .nil (.two (.two .nil .nil) (.two (.one (.two .nil (.two .nil (.two (.two .nil .nil) .nil)))) .nil)))))) (.two .nil .nil)))
def S40 (p0 : Sl) (p1 : Value) (h : V) (R : Value → V → Prop) : Prop :=
  Lp (σ := (Int × Unit)) (fun K s h1 =>
  cond (decide (s.1 < (((p0.n : Nat) : Int))))
  (Ix p0 s.1 7 fun a14 =>
  LdA h1 a14 [(.int .i64), (.int .i64), .sl, (.int .i64), (.int .i64), (.int .i64), (.int .i64)] fun (x15 : ((Int) × (Int) × (Sl) × (Int) × (Int) × (Int) × (Int) × Unit)) =>
  CallV Try.prog p1 [(.agg ⟨[(.int .i64 x15.1), (.int .i64 x15.2.1), (.slice x15.2.2.1.a x15.2.2.1.n x15.2.2.1.c), (.int .i64 x15.2.2.2.1), (.int .i64 x15.2.2.2.2.1), (.int .i64 x15.2.2.2.2.2.1), (.int .i64 x15.2.2.2.2.2.2.1)]⟩)] h1 (.un (.one .bool)) fun (x16 : Bool) h2 =>
  cond x16
  (Wk h2 fun h3 => R (.int .i64 s.1) h3)
  (Wk h2 fun h4 => K (IntKind.wrap .i64 (s.1 + ((1 : Int))), ()) h4))
  (Wk h1 fun h5 => R (.int .i64 ((-1 : Int))) h5))
  ((0 : Int), ()) h
theorem S40_eq (p0 : Sl) (p1 : Value) (h : V) (R : Value → V → Prop) : ABody Try.prog an40 Try.f40 [(.slice p0.a p0.n p0.c), p1] h R = S40 p0 p1 h R := by kernel_rfl
theorem S40_ok (p0 : Sl) (p1 : Value) (h : V) (R : Value → V → Prop) (hk : S40 p0 p1 h R) : ACalls Try.prog 40 [(.slice p0.a p0.n p0.c), p1] h R :=
  ABody_sound mixed Try.func40 Try.call40 (by kernel_rfl) (by kernel_rfl) (an := an40) (by rw [S40_eq]; exact hk)

/- slices.Clone[[]int,int] -/
def an39 : An := (.two .nil (.two (.two .nil (.two (.two .nil .nil) .nil)) (.two .nil .nil)))
def S39 (p0 : Sl) (h : V) (R : Value → V → Prop) : Prop :=
  cond (Option.isNone p0.a)
  (Wk h fun h1 => R (.slice none 0 0) h1)
  (New h (.cells #[] 3) fun r5 h2 =>
  App h2 ⟨(some ⟨r5, 0, none⟩), 0, 0⟩ p0 3 1 8 [(.int .i64 ((0 : Int)))] fun s7 h3 =>
  Wk h3 fun h4 => R (.slice s7.a s7.n s7.c) h4)
theorem S39_eq (p0 : Sl) (h : V) (R : Value → V → Prop) : ABody Try.prog an39 Try.f39 [(.slice p0.a p0.n p0.c)] h R = S39 p0 h R := by kernel_rfl
theorem S39_ok (p0 : Sl) (h : V) (R : Value → V → Prop) (hk : S39 p0 h R) : ACalls Try.prog 39 [(.slice p0.a p0.n p0.c)] h R :=
  ABody_sound mixed Try.func39 Try.call39 (by kernel_rfl) (by kernel_rfl) (an := an39) (by rw [S39_eq]; exact hk)

/- (palings/ssa.Func).once -/
def an22 : An := (.two .nil (.two .nil (.two (.two .nil (.one (.loop [(15, (.one (.int .i64)))] (.two .nil (.two (.two .nil .nil) (.two (.one (.two .nil (.two .nil (.two (.two .nil (.one (.loop [(6, (.one .sl)), (25, (.one (.int .i64)))] (.two .nil (.two (.two .nil .nil) (.two (.one (.two .nil (.two .nil (.two .nil .nil)))) .nil)))))) (.two .nil (.one (.loop [(40, (.one (.int .i64)))] (.two .nil (.two (.two .nil .nil) (.two (.one (.two .nil (.two (.two .nil (.two (.two .nil .nil) .nil)) .nil))) .nil)))))))))) .nil)))))) (.two .nil .nil))))
def S22 (p0_0 : ByteArray) (p0_1 : Sl) (h : V) (R : Value → V → Prop) : Prop :=
  New h (.cells #[(.string p0_0), (.slice p0_1.a p0_1.n p0_1.c)] 46) fun r1 h1 =>
  New h1 (.map #[] 0) fun r11 h2 =>
  Ld h2 (Addr.add (⟨r1, 0, none⟩) 1) .sl fun (x13 : Sl) =>
  Lp (σ := (Int × Unit)) (fun K s h3 =>
  cond (decide (s.1 < (((x13.n : Nat) : Int))))
  (Ix x13 s.1 6 fun a17 =>
  LdA h3 a17 [.sl, .sl, (.int .i64), (.int .i64), .sl, (.int .i64)] fun (x18 : ((Sl) × (Sl) × (Int) × (Int) × (Sl) × (Int) × Unit)) =>
  New h3 (.cells #[(.slice none 0 0), (.slice none 0 0), (.int .i64 ((0 : Int))), (.int .i64 ((0 : Int))), (.slice none 0 0), (.int .i64 ((0 : Int)))] 55) fun r5 h4 =>
  StL h4 (⟨r5, 0, none⟩) 0 [(.slice x18.1.a x18.1.n x18.1.c), (.slice x18.2.1.a x18.2.1.n x18.2.1.c), (.int .i64 x18.2.2.1), (.int .i64 x18.2.2.2.1), (.slice x18.2.2.2.2.1.a x18.2.2.2.2.1.n x18.2.2.2.2.1.c), (.int .i64 x18.2.2.2.2.2.1)] fun h5 =>
  Ld h5 (Addr.add (⟨r5, 0, none⟩) 0) .sl fun (x20 : Sl) =>
  CallK Try.prog 39 [(.slice x20.a x20.n x20.c)] h5 (.un (.one .sl)) fun (x21 : Sl) h6 =>
  Ld h6 (Addr.add (⟨r5, 0, none⟩) 1) .sl fun (x23 : Sl) =>
  Lp (σ := (Sl × Int × Unit)) (fun K_1 s_1 h7 =>
  cond (decide (s_1.2.1 < (((x23.n : Nat) : Int))))
  (Ix x23 s_1.2.1 7 fun a27 =>
  LdA h7 a27 [(.int .i64), (.int .i64), .sl, (.int .i64), (.int .i64), (.int .i64), (.int .i64)] fun (x28 : ((Int) × (Int) × (Sl) × (Int) × (Int) × (Int) × (Int) × Unit)) =>
  New h7 (.cells #[(.int .i64 ((0 : Int))), (.int .i64 ((0 : Int))), (.slice none 0 0), (.int .i64 ((0 : Int))), (.int .i64 ((0 : Int))), (.int .i64 ((0 : Int))), (.int .i64 ((0 : Int)))] 60) fun r8 h8 =>
  StL h8 (⟨r8, 0, none⟩) 0 [(.int .i64 x28.1), (.int .i64 x28.2.1), (.slice x28.2.2.1.a x28.2.2.1.n x28.2.2.1.c), (.int .i64 x28.2.2.2.1), (.int .i64 x28.2.2.2.2.1), (.int .i64 x28.2.2.2.2.2.1), (.int .i64 x28.2.2.2.2.2.2.1)] fun h9 =>
  Ld h9 (Addr.add (⟨r8, 0, none⟩) 1) (.int .i64) fun (x30 : Int) =>
  cond (x30 != ((0 : Int)))
  (Ld h9 (Addr.add (⟨r8, 0, none⟩) 1) (.int .i64) fun (x34 : Int) =>
  New h9 (.cells #[(.int .i64 x34)] 3) fun r35 h10 =>
  App h10 s_1.1 ⟨(some ⟨r35, 0, none⟩), 1, 1⟩ 3 1 8 [(.int .i64 ((0 : Int)))] fun s36 h11 =>
  Wk h11 fun h12 => K_1 (s36, IntKind.wrap .i64 (s_1.2.1 + ((1 : Int))), ()) h12)
  (Wk h9 fun h13 => K_1 (s_1.1, IntKind.wrap .i64 (s_1.2.1 + ((1 : Int))), ()) h13))
  (Lp (σ := (Int × Unit)) (fun K_2 s_2 h14 =>
  cond (decide (s_2.1 < (((s_1.1.n : Nat) : Int))))
  (Ix s_1.1 s_2.1 1 fun a42 =>
  Ld h14 a42 (.int .i64) fun (x43 : Int) =>
  cond (decide (x43 ≤ ((0 : Int))))
  (Wk h14 fun h15 => R (.bool false) h15)
  (Look h14 ((some r11)) (.int .i64) (.int .i64 x43) (.one .bool) false fun (x49 : Bool) _ =>
  cond x49
  (Wk h14 fun h16 => R (.bool false) h16)
  (MUpd h14 ((some r11)) (.int .i64) (.int .i64 x43) (.bool true) fun h17 =>
  Wk h17 fun h18 => K_2 (IntKind.wrap .i64 (s_2.1 + ((1 : Int))), ()) h18)))
  (Wk h14 fun h19 => K (IntKind.wrap .i64 (s.1 + ((1 : Int))), ()) h19))
  ((0 : Int), ()) h7))
  (x21, (0 : Int), ()) h6)
  (Wk h3 fun h20 => R (.bool true) h20))
  ((0 : Int), ()) h2
theorem S22_eq (p0_0 : ByteArray) (p0_1 : Sl) (h : V) (R : Value → V → Prop) : ABody Try.prog an22 Try.f22 [(.agg ⟨[(.string p0_0), (.slice p0_1.a p0_1.n p0_1.c)]⟩)] h R = S22 p0_0 p0_1 h R := by kernel_rfl
theorem S22_ok (p0_0 : ByteArray) (p0_1 : Sl) (h : V) (R : Value → V → Prop) (hk : S22 p0_0 p0_1 h R) : ACalls Try.prog 22 [(.agg ⟨[(.string p0_0), (.slice p0_1.a p0_1.n p0_1.c)]⟩)] h R :=
  ABody_sound mixed Try.func22 Try.call22 (by kernel_rfl) (by kernel_rfl) (an := an22) (by rw [S22_eq]; exact hk)

/- (palings/ssa.Func).ends -/
def an23 : An := (.two .nil (.two .nil (.two .nil (.cut [] (.two .nil (.two (.two .nil .nil) .nil)) (.two (.two .nil (.one (.loop [(64, (.one (.int .i64)))] (.two .nil (.two (.two .nil .nil) (.two (.one (.two .nil (.two (.perm [0, 1, 2, 3, 4, 5, 6, 7, 8, 9, 10, 11, 12, 13, 14, 15, 16, 17, 18, 19, 20, 21, 22, 23, 24] []) (.two (.two .nil .nil) .nil)))) .nil)))))) (.two .nil .nil))))))
def S23 (p0_0 : ByteArray) (p0_1 : Sl) (p1_0 : Int) (p1_1 : Int) (p1_2 : Sl) (p1_3 : Int) (h : V) (R : Value → V → Prop) : Prop :=
  New h (.cells #[(.string p0_0), (.slice p0_1.a p0_1.n p0_1.c)] 46) fun r2 h1 =>
  New h1 (.cells #[(.int .i64 p1_0), (.int .i64 p1_1), (.slice p1_2.a p1_2.n p1_2.c), (.int .i64 p1_3)] 53) fun r3 h2 =>
  New h2 (.map #[] 0) fun r10 h3 =>
  MUpd h3 ((some r10)) (.int .i64) (.int .i64 ((1 : Int))) (.int .i64 ((1 : Int))) fun h4 =>
  MUpd h4 ((some r10)) (.int .i64) (.int .i64 ((2 : Int))) (.int .i64 ((2 : Int))) fun h5 =>
  MUpd h5 ((some r10)) (.int .i64) (.int .i64 ((3 : Int))) (.int .i64 ((0 : Int))) fun h6 =>
  MUpd h6 ((some r10)) (.int .i64) (.int .i64 ((4 : Int))) (.int .i64 ((0 : Int))) fun h7 =>
  Ld h7 (Addr.add (⟨r3, 0, none⟩) 0) (.int .i64) fun (x15 : Int) =>
  Look h7 ((some r10)) (.int .i64) (.int .i64 x15) (.one (.int .i64)) ((0 : Int)) fun (x16 : Int) b16 =>
  Cut (σ := (Unit)) (fun _ h8 =>
  Ld h8 (Addr.add (⟨r3, 0, none⟩) 2) .sl fun (x62 : Sl) =>
  Lp (σ := (Int × Unit)) (fun K s_1 h9 =>
  cond (decide (s_1.1 < (((x62.n : Nat) : Int))))
  (Ix x62 s_1.1 2 fun a66 =>
  LdA h9 a66 [(.int .i64), .sl] fun (x67 : ((Int) × (Sl) × Unit)) =>
  New h9 (.cells #[(.int .i64 ((0 : Int))), (.slice none 0 0)] 74) fun r9 h10 =>
  StL h10 (⟨r9, 0, none⟩) 0 [(.int .i64 x67.1), (.slice x67.2.1.a x67.2.1.n x67.2.1.c)] fun h11 =>
  Ld h11 (Addr.add (⟨r9, 0, none⟩) 0) (.int .i64) fun (x69 : Int) =>
  cond (decide (x69 < ((1 : Int))))
  (Wk h11 fun h12 => R (.bool false) h12)
  (Ld h11 (Addr.add (⟨r9, 0, none⟩) 0) (.int .i64) fun (x73 : Int) =>
  Ld h11 (Addr.add (⟨r2, 0, none⟩) 1) .sl fun (x75 : Sl) =>
  cond (decide (x73 ≥ (((x75.n : Nat) : Int))))
  (Wk h11 fun h13 => R (.bool false) h13)
  (Ld h11 (Addr.add (⟨r9, 0, none⟩) 1) .sl fun (x81 : Sl) =>
  Ld h11 (Addr.add (⟨r2, 0, none⟩) 1) .sl fun (x84 : Sl) =>
  Ld h11 (Addr.add (⟨r9, 0, none⟩) 0) (.int .i64) fun (x86 : Int) =>
  Ix x84 x86 6 fun a87 =>
  Ld h11 (Addr.add a87 0) .sl fun (x89 : Sl) =>
  cond ((((x81.n : Nat) : Int)) != (((x89.n : Nat) : Int)))
  (Wk h11 fun h14 => R (.bool false) h14)
  (Wk h11 fun h15 => K (IntKind.wrap .i64 (s_1.1 + ((1 : Int))), ()) h15))))
  (Wk h9 fun h16 => R (.bool true) h16))
  ((0 : Int), ()) h8) fun J =>
  cond (!b16)
  (Wk h7 fun h17 => R (.bool false) h17)
  (Ld h7 (Addr.add (⟨r3, 0, none⟩) 2) .sl fun (x23 : Sl) =>
  cond ((((x23.n : Nat) : Int)) != x16)
  (Wk h7 fun h18 => R (.bool false) h18)
  (Ld h7 (Addr.add (⟨r3, 0, none⟩) 0) (.int .i64) fun (x30 : Int) =>
  Ld h7 (Addr.add (⟨r3, 0, none⟩) 3) (.int .i64) fun (x33 : Int) =>
  cond (x33 == ((1 : Int)))
  (cond (!((x30 == ((4 : Int))) == true))
  (Wk h7 fun h19 => R (.bool false) h19)
  (Ld h7 (Addr.add (⟨r3, 0, none⟩) 0) (.int .i64) fun (x44 : Int) =>
  cond (x44 == ((2 : Int)))
  (Ld h7 (Addr.add (⟨r3, 0, none⟩) 1) (.int .i64) fun (x52 : Int) =>
  cond (!(true == (decide (x52 > ((0 : Int))))))
  (Wk h7 fun h20 => R (.bool false) h20)
  (Ld h7 (Addr.add (⟨r3, 0, none⟩) 1) (.int .i64) fun (x58 : Int) =>
  cond (decide (x58 < ((0 : Int))))
  (Wk h7 fun h21 => R (.bool false) h21)
  (Wk h7 fun h22 => J (()) h22)))
  (Ld h7 (Addr.add (⟨r3, 0, none⟩) 0) (.int .i64) fun (x48 : Int) =>
  Ld h7 (Addr.add (⟨r3, 0, none⟩) 1) (.int .i64) fun (x52_1 : Int) =>
  cond (!((x48 == ((3 : Int))) == (decide (x52_1 > ((0 : Int))))))
  (Wk h7 fun h23 => R (.bool false) h23)
  (Ld h7 (Addr.add (⟨r3, 0, none⟩) 1) (.int .i64) fun (x58_1 : Int) =>
  cond (decide (x58_1 < ((0 : Int))))
  (Wk h7 fun h24 => R (.bool false) h24)
  (Wk h7 fun h25 => J (()) h25)))))
  (Ld h7 (Addr.add (⟨r3, 0, none⟩) 3) (.int .i64) fun (x37 : Int) =>
  cond (!((x30 == ((4 : Int))) == (x37 == ((2 : Int)))))
  (Wk h7 fun h26 => R (.bool false) h26)
  (Ld h7 (Addr.add (⟨r3, 0, none⟩) 0) (.int .i64) fun (x44_1 : Int) =>
  cond (x44_1 == ((2 : Int)))
  (Ld h7 (Addr.add (⟨r3, 0, none⟩) 1) (.int .i64) fun (x52_2 : Int) =>
  cond (!(true == (decide (x52_2 > ((0 : Int))))))
  (Wk h7 fun h27 => R (.bool false) h27)
  (Ld h7 (Addr.add (⟨r3, 0, none⟩) 1) (.int .i64) fun (x58_2 : Int) =>
  cond (decide (x58_2 < ((0 : Int))))
  (Wk h7 fun h28 => R (.bool false) h28)
  (Wk h7 fun h29 => J (()) h29)))
  (Ld h7 (Addr.add (⟨r3, 0, none⟩) 0) (.int .i64) fun (x48_1 : Int) =>
  Ld h7 (Addr.add (⟨r3, 0, none⟩) 1) (.int .i64) fun (x52_3 : Int) =>
  cond (!((x48_1 == ((3 : Int))) == (decide (x52_3 > ((0 : Int))))))
  (Wk h7 fun h30 => R (.bool false) h30)
  (Ld h7 (Addr.add (⟨r3, 0, none⟩) 1) (.int .i64) fun (x58_3 : Int) =>
  cond (decide (x58_3 < ((0 : Int))))
  (Wk h7 fun h31 => R (.bool false) h31)
  (Wk h7 fun h32 => J (()) h32)))))))
theorem S23_eq (p0_0 : ByteArray) (p0_1 : Sl) (p1_0 : Int) (p1_1 : Int) (p1_2 : Sl) (p1_3 : Int) (h : V) (R : Value → V → Prop) : ABody Try.prog an23 Try.f23 [(.agg ⟨[(.string p0_0), (.slice p0_1.a p0_1.n p0_1.c)]⟩), (.agg ⟨[(.int .i64 p1_0), (.int .i64 p1_1), (.slice p1_2.a p1_2.n p1_2.c), (.int .i64 p1_3)]⟩)] h R = S23 p0_0 p0_1 p1_0 p1_1 p1_2 p1_3 h R := by kernel_rfl
theorem S23_ok (p0_0 : ByteArray) (p0_1 : Sl) (p1_0 : Int) (p1_1 : Int) (p1_2 : Sl) (p1_3 : Int) (h : V) (R : Value → V → Prop) (hk : S23 p0_0 p0_1 p1_0 p1_1 p1_2 p1_3 h R) : ACalls Try.prog 23 [(.agg ⟨[(.string p0_0), (.slice p0_1.a p0_1.n p0_1.c)]⟩), (.agg ⟨[(.int .i64 p1_0), (.int .i64 p1_1), (.slice p1_2.a p1_2.n p1_2.c), (.int .i64 p1_3)]⟩)] h R :=
  ABody_sound mixed Try.func23 Try.call23 (by kernel_rfl) (by kernel_rfl) (an := an23) (by rw [S23_eq]; exact hk)

/- palings/ssa.after -/
def an43 : An := (.two .nil (.two .nil (.two (.two .nil (.one (.loop [] (.two .nil (.two (.two .nil .nil) (.one (.two .nil .nil))))))) (.two (.two .nil (.one (.loop [(23, (.one (.int .i64)))] (.two .nil (.two (.two .nil .nil) (.two (.one (.two .nil .nil)) .nil)))))) (.two (.two .nil (.one (.loop [(33, (.one (.int .i64)))] (.two .nil (.two (.two .nil .nil) (.two (.one (.two .nil (.two .nil (.two .nil .nil)))) .nil)))))) (.two .nil .nil))))))
def S43 (p0 : Option Nat) (p1_0 : Sl) (p1_1 : Sl) (p1_2 : Int) (p1_3 : Int) (p1_4 : Sl) (p1_5 : Int) (h : V) (R : Value → V → Prop) : Prop :=
  New h (.cells #[(.slice p1_0.a p1_0.n p1_0.c), (.slice p1_1.a p1_1.n p1_1.c), (.int .i64 p1_2), (.int .i64 p1_3), (.slice p1_4.a p1_4.n p1_4.c), (.int .i64 p1_5)] 55) fun r3 h1 =>
  New h1 (.map #[] 0) fun r11 h2 =>
  Rng h2 p0 fun r13 h3 =>
  Lp (σ := (Unit)) (fun K _ h4 =>
  Nxt h4 r13 (fun _ _ h5 =>
  Ent h5 r13 fun k16 _ =>
  unK (.int .i64) k16 fun (x17 : Int) =>
  MUpd h5 ((some r11)) (.int .i64) (.int .i64 x17) (.bool true) fun h6 =>
  Wk h6 fun h7 => K (()) h7)
  (Ld h4 (Addr.add (⟨r3, 0, none⟩) 0) .sl fun (x21 : Sl) =>
  Lp (σ := (Int × Unit)) (fun K_1 s_1 h8 =>
  cond (decide (s_1.1 < (((x21.n : Nat) : Int))))
  (Ix x21 s_1.1 1 fun a25 =>
  Ld h8 a25 (.int .i64) fun (x26 : Int) =>
  MUpd h8 ((some r11)) (.int .i64) (.int .i64 x26) (.bool true) fun h9 =>
  Wk h9 fun h10 => K_1 (IntKind.wrap .i64 (s_1.1 + ((1 : Int))), ()) h10)
  (Ld h8 (Addr.add (⟨r3, 0, none⟩) 1) .sl fun (x31 : Sl) =>
  Lp (σ := (Int × Unit)) (fun K_2 s_2 h11 =>
  cond (decide (s_2.1 < (((x31.n : Nat) : Int))))
  (Ix x31 s_2.1 7 fun a35 =>
  LdA h11 a35 [(.int .i64), (.int .i64), .sl, (.int .i64), (.int .i64), (.int .i64), (.int .i64)] fun (x36 : ((Int) × (Int) × (Sl) × (Int) × (Int) × (Int) × (Int) × Unit)) =>
  New h11 (.cells #[(.int .i64 ((0 : Int))), (.int .i64 ((0 : Int))), (.slice none 0 0), (.int .i64 ((0 : Int))), (.int .i64 ((0 : Int))), (.int .i64 ((0 : Int))), (.int .i64 ((0 : Int)))] 60) fun r10 h12 =>
  StL h12 (⟨r10, 0, none⟩) 0 [(.int .i64 x36.1), (.int .i64 x36.2.1), (.slice x36.2.2.1.a x36.2.2.1.n x36.2.2.1.c), (.int .i64 x36.2.2.2.1), (.int .i64 x36.2.2.2.2.1), (.int .i64 x36.2.2.2.2.2.1), (.int .i64 x36.2.2.2.2.2.2.1)] fun h13 =>
  Ld h13 (Addr.add (⟨r10, 0, none⟩) 1) (.int .i64) fun (x38 : Int) =>
  cond (x38 != ((0 : Int)))
  (Ld h13 (Addr.add (⟨r10, 0, none⟩) 1) (.int .i64) fun (x42 : Int) =>
  MUpd h13 ((some r11)) (.int .i64) (.int .i64 x42) (.bool true) fun h14 =>
  Wk h14 fun h15 => K_2 (IntKind.wrap .i64 (s_2.1 + ((1 : Int))), ()) h15)
  (Wk h13 fun h16 => K_2 (IntKind.wrap .i64 (s_2.1 + ((1 : Int))), ()) h16))
  (Wk h11 fun h17 => R (.map ((some r11))) h17))
  ((0 : Int), ()) h8))
  ((0 : Int), ()) h4))
  (()) h3
theorem S43_eq (p0 : Option Nat) (p1_0 : Sl) (p1_1 : Sl) (p1_2 : Int) (p1_3 : Int) (p1_4 : Sl) (p1_5 : Int) (h : V) (R : Value → V → Prop) : ABody Try.prog an43 Try.f43 [(.map p0), (.agg ⟨[(.slice p1_0.a p1_0.n p1_0.c), (.slice p1_1.a p1_1.n p1_1.c), (.int .i64 p1_2), (.int .i64 p1_3), (.slice p1_4.a p1_4.n p1_4.c), (.int .i64 p1_5)]⟩)] h R = S43 p0 p1_0 p1_1 p1_2 p1_3 p1_4 p1_5 h R := by kernel_rfl
theorem S43_ok (p0 : Option Nat) (p1_0 : Sl) (p1_1 : Sl) (p1_2 : Int) (p1_3 : Int) (p1_4 : Sl) (p1_5 : Int) (h : V) (R : Value → V → Prop) (hk : S43 p0 p1_0 p1_1 p1_2 p1_3 p1_4 p1_5 h R) : ACalls Try.prog 43 [(.map p0), (.agg ⟨[(.slice p1_0.a p1_0.n p1_0.c), (.slice p1_1.a p1_1.n p1_1.c), (.int .i64 p1_2), (.int .i64 p1_3), (.slice p1_4.a p1_4.n p1_4.c), (.int .i64 p1_5)]⟩)] h R :=
  ABody_sound mixed Try.func43 Try.call43 (by kernel_rfl) (by kernel_rfl) (an := an43) (by rw [S43_eq]; exact hk)

/- palings/ssa.meet -/
def an44 : An := (.two .nil (.two (.two .nil (.two (.two .nil (.two .nil .nil)) .nil)) (.two .nil (.two (.two .nil (.one (.loop [(7, (.one .bool))] (.two .nil (.two (.two .nil .nil) (.one (.two .nil (.two .nil (.two (.two .nil .nil) .nil))))))))) (.two .nil .nil)))))
def S44 (p0 : Sl) (p1 : Int) (p2 : Option Nat) (h : V) (R : Value → V → Prop) : Prop :=
  Ix p0 p1 1 fun a11 =>
  Ld h a11 .mp fun (x12 : Option Nat) =>
  cond (Option.isNone x12)
  (Ix p0 p1 1 fun a17 =>
  StL h a17 0 [(.map p2)] fun h1 =>
  Wk h1 fun h2 => R (.bool true) h2)
  (Ix p0 p1 1 fun a20 =>
  Ld h a20 .mp fun (x21 : Option Nat) =>
  Rng h x21 fun r22 h3 =>
  Lp (σ := (Bool × Unit)) (fun K s h4 =>
  Nxt h4 r22 (fun _ _ h5 =>
  Ent h5 r22 fun k25 _ =>
  unK (.int .i64) k25 fun (x26 : Int) =>
  Look h5 p2 (.int .i64) (.int .i64 x26) (.one .bool) false fun (x29 : Bool) _ =>
  cond (!x29)
  (Ix p0 p1 1 fun a33 =>
  Ld h5 a33 .mp fun (x34 : Option Nat) =>
  MDel h5 x34 (.int .i64) (.int .i64 x26) fun h6 =>
  Wk h6 fun h7 => K (true, ()) h7)
  (Wk h5 fun h8 => K (s.1, ()) h8))
  (Wk h4 fun h9 => R (.bool s.1) h9))
  (false, ()) h3)
theorem S44_eq (p0 : Sl) (p1 : Int) (p2 : Option Nat) (h : V) (R : Value → V → Prop) : ABody Try.prog an44 Try.f44 [(.slice p0.a p0.n p0.c), (.int .i64 p1), (.map p2)] h R = S44 p0 p1 p2 h R := by kernel_rfl
theorem S44_ok (p0 : Sl) (p1 : Int) (p2 : Option Nat) (h : V) (R : Value → V → Prop) (hk : S44 p0 p1 p2 h R) : ACalls Try.prog 44 [(.slice p0.a p0.n p0.c), (.int .i64 p1), (.map p2)] h R :=
  ABody_sound mixed Try.func44 Try.call44 (by kernel_rfl) (by kernel_rfl) (an := an44) (by rw [S44_eq]; exact hk)

/- (palings/ssa.Func).known -/
def an27 : An := (.two .nil (.two .nil (.two .nil (.two (.two .nil (.one (.loop [(5, (.one .bool))] (.two (.two .nil (.two .nil .nil)) (.one (.two .nil (.two .nil (.one (.loop [(5, (.one .bool)), (21, (.one (.int .i64)))] (.two .nil (.two (.two .nil .nil) (.two (.one (.two .nil (.cut [] (.two .nil (.two .nil .nil)) (.cut [(5, (.one .bool))] (.two .nil (.two (.two .nil .nil) .nil)) (.two (.perm [0, 1, 2, 3, 4, 5, 6] []) (.two .nil (.one (.loop [(5, (.one .bool)), (61, (.one (.int .i64)))] (.two .nil (.two (.two .nil .nil) (.two (.one (.two .nil .nil)) .nil))))))))))) .nil)))))))))))) (.two .nil .nil)))))
def S27 (p0_0 : ByteArray) (p0_1 : Sl) (h : V) (R : Value → V → Prop) : Prop :=
  New h (.cells #[(.string p0_0), (.slice p0_1.a p0_1.n p0_1.c)] 46) fun r1 h1 =>
  Ld h1 (Addr.add (⟨r1, 0, none⟩) 1) .sl fun (x12 : Sl) =>
  MkSl h1 (((x12.n : Nat) : Int)) (((x12.n : Nat) : Int)) [(.map none)] 29 8 fun s14 h2 =>
  LdA h2 (⟨r1, 0, none⟩) [.str, .sl] fun (x15 : ((ByteArray) × (Sl) × Unit)) =>
  CallK Try.prog 19 [(.agg ⟨[(.string x15.1), (.slice x15.2.1.a x15.2.1.n x15.2.1.c)]⟩)] h2 (.un (.one .sl)) fun (x16 : Sl) h3 =>
  Lp (σ := (Bool × Unit)) (fun K s h4 =>
  cond s.1
  (Ld h4 (Addr.add (⟨r1, 0, none⟩) 1) .sl fun (x19 : Sl) =>
  Lp (σ := (Bool × Int × Unit)) (fun K_1 s_1 h5 =>
  cond (decide (s_1.2.1 < (((x19.n : Nat) : Int))))
  (Ix x19 s_1.2.1 6 fun a24 =>
  LdA h5 a24 [.sl, .sl, (.int .i64), (.int .i64), .sl, (.int .i64)] fun (x25 : ((Sl) × (Sl) × (Int) × (Int) × (Sl) × (Int) × Unit)) =>
  New h5 (.cells #[(.slice none 0 0), (.slice none 0 0), (.int .i64 ((0 : Int))), (.int .i64 ((0 : Int))), (.slice none 0 0), (.int .i64 ((0 : Int)))] 55) fun r7 h6 =>
  StL h6 (⟨r7, 0, none⟩) 0 [(.slice x25.1.a x25.1.n x25.1.c), (.slice x25.2.1.a x25.2.1.n x25.2.1.c), (.int .i64 x25.2.2.1), (.int .i64 x25.2.2.2.1), (.slice x25.2.2.2.2.1.a x25.2.2.2.2.1.n x25.2.2.2.2.1.c), (.int .i64 x25.2.2.2.2.2.1)] fun h7 =>
  Cut (σ := (Unit)) (fun _ h8 =>
  Cut (σ := (Bool × Unit)) (fun s_3 h9 =>
  Ix s14 s_1.2.1 1 fun a53 =>
  Ld h9 a53 .mp fun (x54 : Option Nat) =>
  LdA h9 (⟨r7, 0, none⟩) [.sl, .sl, (.int .i64), (.int .i64), .sl, (.int .i64)] fun (x55 : ((Sl) × (Sl) × (Int) × (Int) × (Sl) × (Int) × Unit)) =>
  CallK Try.prog 43 [(.map x54), (.agg ⟨[(.slice x55.1.a x55.1.n x55.1.c), (.slice x55.2.1.a x55.2.1.n x55.2.1.c), (.int .i64 x55.2.2.1), (.int .i64 x55.2.2.2.1), (.slice x55.2.2.2.2.1.a x55.2.2.2.2.1.n x55.2.2.2.2.1.c), (.int .i64 x55.2.2.2.2.2.1)]⟩)] h9 (.un (.one .mp)) fun (x56 : Option Nat) h10 =>
  Ld h10 (Addr.add (Addr.add (⟨r7, 0, none⟩) 2) 2) .sl fun (x59 : Sl) =>
  Lp (σ := (Bool × Int × Unit)) (fun K_2 s_4 h11 =>
  cond (decide (s_4.2.1 < (((x59.n : Nat) : Int))))
  (Ix x59 s_4.2.1 2 fun a63 =>
  LdA h11 a63 [(.int .i64), .sl] fun (x64 : ((Int) × (Sl) × Unit)) =>
  New h11 (.cells #[(.int .i64 ((0 : Int))), (.slice none 0 0)] 74) fun r10 h12 =>
  StL h12 (⟨r10, 0, none⟩) 0 [(.int .i64 x64.1), (.slice x64.2.1.a x64.2.1.n x64.2.1.c)] fun h13 =>
  Ld h13 (Addr.add (⟨r10, 0, none⟩) 0) (.int .i64) fun (x67 : Int) =>
  CallK Try.prog 44 [(.slice s14.a s14.n s14.c), (.int .i64 x67), (.map x56)] h13 (.un (.one .bool)) fun (x69 : Bool) h14 =>
  cond x69
  (Wk h14 fun h15 => K_2 (true, IntKind.wrap .i64 (s_4.2.1 + ((1 : Int))), ()) h15)
  (Wk h14 fun h16 => K_2 (s_4.1, IntKind.wrap .i64 (s_4.2.1 + ((1 : Int))), ()) h16))
  (Wk h11 fun h17 => K_1 (s_4.1, IntKind.wrap .i64 (s_1.2.1 + ((1 : Int))), ()) h17))
  (s_3.1, (0 : Int), ()) h10) fun J_1 =>
  Ix s14 s_1.2.1 1 fun a44 =>
  Ld h8 a44 .mp fun (x45 : Option Nat) =>
  cond (Option.isNone x45)
  (New h8 (.map #[] 0) fun r49 h18 =>
  Ix s14 s_1.2.1 1 fun a50 =>
  StL h18 a50 0 [(.map ((some r49)))] fun h19 =>
  Wk h19 fun h20 => J_1 (true, ()) h20)
  (Wk h8 fun h21 => J_1 (s_1.1, ()) h21)) fun J =>
  Ix x16 s_1.2.1 1 fun a28 =>
  Ld h7 a28 .bool fun (x29 : Bool) =>
  cond (!x29)
  (Wk h7 fun h22 => K_1 (s_1.1, IntKind.wrap .i64 (s_1.2.1 + ((1 : Int))), ()) h22)
  (cond (decide (s_1.2.1 > ((0 : Int))))
  (Ix s14 s_1.2.1 1 fun a37 =>
  Ld h7 a37 .mp fun (x38 : Option Nat) =>
  cond (Option.isNone x38)
  (Wk h7 fun h23 => K_1 (s_1.1, IntKind.wrap .i64 (s_1.2.1 + ((1 : Int))), ()) h23)
  (Wk h7 fun h24 => J (()) h24))
  (Wk h7 fun h25 => J (()) h25)))
  (Wk h5 fun h26 => K (s_1.1, ()) h26))
  (false, (0 : Int), ()) h4)
  (Wk h4 fun h27 => R (.slice s14.a s14.n s14.c) h27))
  (true, ()) h3
theorem S27_eq (p0_0 : ByteArray) (p0_1 : Sl) (h : V) (R : Value → V → Prop) : ABody Try.prog an27 Try.f27 [(.agg ⟨[(.string p0_0), (.slice p0_1.a p0_1.n p0_1.c)]⟩)] h R = S27 p0_0 p0_1 h R := by kernel_rfl
theorem S27_ok (p0_0 : ByteArray) (p0_1 : Sl) (h : V) (R : Value → V → Prop) (hk : S27 p0_0 p0_1 h R) : ACalls Try.prog 27 [(.agg ⟨[(.string p0_0), (.slice p0_1.a p0_1.n p0_1.c)]⟩)] h R :=
  ABody_sound mixed Try.func27 Try.call27 (by kernel_rfl) (by kernel_rfl) (an := an27) (by rw [S27_eq]; exact hk)

/- palings/ssa.used -/
def an28 : An := (.two .nil (.two .nil (.two (.two .nil (.one (.loop [] (.two .nil (.two (.two .nil .nil) (.one (.two .nil .nil))))))) (.two (.two .nil (.one (.loop [(26, (.one (.int .i64)))] (.two .nil (.two (.two .nil .nil) (.two (.one (.two .nil .nil)) .nil)))))) (.two .nil (.two (.two .nil (.one (.loop [(37, (.one (.int .i64)))] (.two .nil (.two (.two .nil .nil) (.two (.one (.two .nil (.two (.two .nil (.two (.two .nil .nil) .nil)) (.two .nil (.two .nil .nil))))) .nil)))))) (.two (.two .nil (.one (.loop [(57, (.one (.int .i64)))] (.two .nil (.two (.two .nil .nil) (.two (.one (.two .nil (.two .nil (.two (.two .nil .nil) .nil)))) .nil)))))) (.two .nil .nil))))))))
def S28 (p0 : Option Nat) (p1_0 : Sl) (p1_1 : Sl) (p1_2 : Int) (p1_3 : Int) (p1_4 : Sl) (p1_5 : Int) (h : V) (R : Value → V → Prop) : Prop :=
  New h (.cells #[(.slice p1_0.a p1_0.n p1_0.c), (.slice p1_1.a p1_1.n p1_1.c), (.int .i64 p1_2), (.int .i64 p1_3), (.slice p1_4.a p1_4.n p1_4.c), (.int .i64 p1_5)] 55) fun r3 h1 =>
  New h1 (.map #[] 0) fun r14 h2 =>
  New h2 (.cells #[(.map none)] 29) fun r5 h3 =>
  StL h3 (⟨r5, 0, none⟩) 0 [(.map ((some r14)))] fun h4 =>
  Rng h4 p0 fun r16 h5 =>
  Lp (σ := (Unit)) (fun K _ h6 =>
  Nxt h6 r16 (fun _ _ h7 =>
  Ent h7 r16 fun k19 _ =>
  unK (.int .i64) k19 fun (x20 : Int) =>
  Ld h7 (⟨r5, 0, none⟩) .mp fun (x21 : Option Nat) =>
  MUpd h7 x21 (.int .i64) (.int .i64 x20) (.bool true) fun h8 =>
  Wk h8 fun h9 => K (()) h9)
  (Ld h6 (Addr.add (⟨r3, 0, none⟩) 0) .sl fun (x24 : Sl) =>
  Lp (σ := (Int × Unit)) (fun K_1 s_1 h10 =>
  cond (decide (s_1.1 < (((x24.n : Nat) : Int))))
  (Ix x24 s_1.1 1 fun a28 =>
  Ld h10 a28 (.int .i64) fun (x29 : Int) =>
  Ld h10 (⟨r5, 0, none⟩) .mp fun (x30 : Option Nat) =>
  MUpd h10 x30 (.int .i64) (.int .i64 x29) (.bool true) fun h11 =>
  Wk h11 fun h12 => K_1 (IntKind.wrap .i64 (s_1.1 + ((1 : Int))), ()) h12)
  (Ld h10 (Addr.add (⟨r3, 0, none⟩) 1) .sl fun (x35 : Sl) =>
  Lp (σ := (Int × Unit)) (fun K_2 s_2 h13 =>
  cond (decide (s_2.1 < (((x35.n : Nat) : Int))))
  (Ix x35 s_2.1 7 fun a39 =>
  LdA h13 a39 [(.int .i64), (.int .i64), .sl, (.int .i64), (.int .i64), (.int .i64), (.int .i64)] fun (x40 : ((Int) × (Int) × (Sl) × (Int) × (Int) × (Int) × (Int) × Unit)) =>
  New h13 (.cells #[(.int .i64 ((0 : Int))), (.int .i64 ((0 : Int))), (.slice none 0 0), (.int .i64 ((0 : Int))), (.int .i64 ((0 : Int))), (.int .i64 ((0 : Int))), (.int .i64 ((0 : Int)))] 60) fun r11 h14 =>
  StL h14 (⟨r11, 0, none⟩) 0 [(.int .i64 x40.1), (.int .i64 x40.2.1), (.slice x40.2.2.1.a x40.2.2.1.n x40.2.2.1.c), (.int .i64 x40.2.2.2.1), (.int .i64 x40.2.2.2.2.1), (.int .i64 x40.2.2.2.2.2.1), (.int .i64 x40.2.2.2.2.2.2.1)] fun h15 =>
  Ld h15 (Addr.add (⟨r11, 0, none⟩) 2) .sl fun (x43 : Sl) =>
  CallV Try.prog (.func (.func 45) ⟨[]⟩ ⟨[(.pointer (some (⟨r5, 0, none⟩)))]⟩) [(.slice x43.a x43.n x43.c)] h15 (.un (.one .bool)) fun (x44 : Bool) h16 =>
  cond (!x44)
  (Wk h16 fun h17 => R (.bool false) h17)
  (Ld h16 (Addr.add (⟨r11, 0, none⟩) 1) (.int .i64) fun (x47 : Int) =>
  cond (x47 != ((0 : Int)))
  (Ld h16 (⟨r5, 0, none⟩) .mp fun (x49 : Option Nat) =>
  Ld h16 (Addr.add (⟨r11, 0, none⟩) 1) (.int .i64) fun (x51 : Int) =>
  MUpd h16 x49 (.int .i64) (.int .i64 x51) (.bool true) fun h18 =>
  Wk h18 fun h19 => K_2 (IntKind.wrap .i64 (s_2.1 + ((1 : Int))), ()) h19)
  (Wk h16 fun h20 => K_2 (IntKind.wrap .i64 (s_2.1 + ((1 : Int))), ()) h20)))
  (Ld h13 (Addr.add (Addr.add (⟨r3, 0, none⟩) 2) 2) .sl fun (x55 : Sl) =>
  Lp (σ := (Int × Unit)) (fun K_3 s_3 h21 =>
  cond (decide (s_3.1 < (((x55.n : Nat) : Int))))
  (Ix x55 s_3.1 2 fun a59 =>
  LdA h21 a59 [(.int .i64), .sl] fun (x60 : ((Int) × (Sl) × Unit)) =>
  New h21 (.cells #[(.int .i64 ((0 : Int))), (.slice none 0 0)] 74) fun r13 h22 =>
  StL h22 (⟨r13, 0, none⟩) 0 [(.int .i64 x60.1), (.slice x60.2.1.a x60.2.1.n x60.2.1.c)] fun h23 =>
  Ld h23 (Addr.add (⟨r13, 0, none⟩) 1) .sl fun (x63 : Sl) =>
  CallV Try.prog (.func (.func 45) ⟨[]⟩ ⟨[(.pointer (some (⟨r5, 0, none⟩)))]⟩) [(.slice x63.a x63.n x63.c)] h23 (.un (.one .bool)) fun (x64 : Bool) h24 =>
  cond (!x64)
  (Wk h24 fun h25 => R (.bool false) h25)
  (Wk h24 fun h26 => K_3 (IntKind.wrap .i64 (s_3.1 + ((1 : Int))), ()) h26))
  (Ld h21 (Addr.add (Addr.add (⟨r3, 0, none⟩) 2) 1) (.int .i64) fun (x69 : Int) =>
  cond (x69 == ((0 : Int)))
  (Wk h21 fun h27 => R (.bool true) h27)
  (Ld h21 (⟨r5, 0, none⟩) .mp fun (x72 : Option Nat) =>
  Ld h21 (Addr.add (Addr.add (⟨r3, 0, none⟩) 2) 1) (.int .i64) fun (x75 : Int) =>
  Look h21 x72 (.int .i64) (.int .i64 x75) (.one .bool) false fun (x76 : Bool) _ =>
  Wk h21 fun h28 => R (.bool x76) h28)))
  ((0 : Int), ()) h13))
  ((0 : Int), ()) h10))
  ((0 : Int), ()) h6))
  (()) h5
theorem S28_eq (p0 : Option Nat) (p1_0 : Sl) (p1_1 : Sl) (p1_2 : Int) (p1_3 : Int) (p1_4 : Sl) (p1_5 : Int) (h : V) (R : Value → V → Prop) : ABody Try.prog an28 Try.f28 [(.map p0), (.agg ⟨[(.slice p1_0.a p1_0.n p1_0.c), (.slice p1_1.a p1_1.n p1_1.c), (.int .i64 p1_2), (.int .i64 p1_3), (.slice p1_4.a p1_4.n p1_4.c), (.int .i64 p1_5)]⟩)] h R = S28 p0 p1_0 p1_1 p1_2 p1_3 p1_4 p1_5 h R := by kernel_rfl
theorem S28_ok (p0 : Option Nat) (p1_0 : Sl) (p1_1 : Sl) (p1_2 : Int) (p1_3 : Int) (p1_4 : Sl) (p1_5 : Int) (h : V) (R : Value → V → Prop) (hk : S28 p0 p1_0 p1_1 p1_2 p1_3 p1_4 p1_5 h R) : ACalls Try.prog 28 [(.map p0), (.agg ⟨[(.slice p1_0.a p1_0.n p1_0.c), (.slice p1_1.a p1_1.n p1_1.c), (.int .i64 p1_2), (.int .i64 p1_3), (.slice p1_4.a p1_4.n p1_4.c), (.int .i64 p1_5)]⟩)] h R :=
  ABody_sound mixed Try.func28 Try.call28 (by kernel_rfl) (by kernel_rfl) (an := an28) (by rw [S28_eq]; exact hk)

/- palings/ssa.used.1 -/
def an45 : An := (.two .nil (.two .nil .nil))
def S45 (p0 : Sl) (c0 : Addr) (h : V) (R : Value → V → Prop) : Prop :=
  CallK Try.prog 46 [(.slice p0.a p0.n p0.c), (.func (.func 47) ⟨[]⟩ ⟨[(.pointer (some c0))]⟩)] h (.un (.one .bool)) fun (x6 : Bool) h1 =>
  Wk h1 fun h2 => R (.bool (!x6)) h2
theorem S45_eq (p0 : Sl) (c0 : Addr) (h : V) (R : Value → V → Prop) : ABody Try.prog an45 Try.f45 [(.slice p0.a p0.n p0.c), (.pointer (some c0))] h R = S45 p0 c0 h R := by kernel_rfl
theorem S45_ok (p0 : Sl) (c0 : Addr) (h : V) (R : Value → V → Prop) (hk : S45 p0 c0 h R) : ACalls Try.prog 45 [(.slice p0.a p0.n p0.c), (.pointer (some c0))] h R :=
  ABody_sound mixed Try.func45 Try.call45 (by kernel_rfl) (by kernel_rfl) (an := an45) (by rw [S45_eq]; exact hk)

/- slices.ContainsFunc[[]int,int] -/
def an46 : An := (.two .nil (.two .nil .nil))
def S46 (p0 : Sl) (p1 : Value) (h : V) (R : Value → V → Prop) : Prop :=
  CallK Try.prog 53 [(.slice p0.a p0.n p0.c), p1] h (.un (.one (.int .i64))) fun (x7 : Int) h1 =>
  Wk h1 fun h2 => R (.bool (decide (x7 ≥ ((0 : Int))))) h2
theorem S46_eq (p0 : Sl) (p1 : Value) (h : V) (R : Value → V → Prop) : ABody Try.prog an46 Try.f46 [(.slice p0.a p0.n p0.c), p1] h R = S46 p0 p1 h R := by kernel_rfl
theorem S46_ok (p0 : Sl) (p1 : Value) (h : V) (R : Value → V → Prop) (hk : S46 p0 p1 h R) : ACalls Try.prog 46 [(.slice p0.a p0.n p0.c), p1] h R :=
  ABody_sound mixed Try.func46 Try.call46 (by kernel_rfl) (by kernel_rfl) (an := an46) (by rw [S46_eq]; exact hk)

/- palings/ssa.used.1.1 -/
def an47 : An := (.two .nil (.two .nil .nil))
def S47 (p0 : Int) (c0 : Addr) (h : V) (R : Value → V → Prop) : Prop :=
  Ld h c0 .mp fun (x4 : Option Nat) =>
  Look h x4 (.int .i64) (.int .i64 p0) (.one .bool) false fun (x6 : Bool) _ =>
  Wk h fun h1 => R (.bool (!x6)) h1
theorem S47_eq (p0 : Int) (c0 : Addr) (h : V) (R : Value → V → Prop) : ABody Try.prog an47 Try.f47 [(.int .i64 p0), (.pointer (some c0))] h R = S47 p0 c0 h R := by kernel_rfl
theorem S47_ok (p0 : Int) (c0 : Addr) (h : V) (R : Value → V → Prop) (hk : S47 p0 c0 h R) : ACalls Try.prog 47 [(.int .i64 p0), (.pointer (some c0))] h R :=
  ABody_sound mixed Try.func47 Try.call47 (by kernel_rfl) (by kernel_rfl) (an := an47) (by rw [S47_eq]; exact hk)

/- slices.IndexFunc[[]int,int] -/
def an53 : An := (.two .nil (.two (.two .nil (.one (.loop [(8, (.one (.int .i64)))] (.two .nil (.two (.two .nil .nil) (.two (.one (.two .nil (.two .nil (.two (.two .nil .nil) .nil)))) .nil)))))) (.two .nil .nil)))
def S53 (p0 : Sl) (p1 : Value) (h : V) (R : Value → V → Prop) : Prop :=
  Lp (σ := (Int × Unit)) (fun K s h1 =>
  cond (decide (s.1 < (((p0.n : Nat) : Int))))
  (Ix p0 s.1 1 fun a14 =>
  Ld h1 a14 (.int .i64) fun (x15 : Int) =>
  CallV Try.prog p1 [(.int .i64 x15)] h1 (.un (.one .bool)) fun (x16 : Bool) h2 =>
  cond x16
  (Wk h2 fun h3 => R (.int .i64 s.1) h3)
  (Wk h2 fun h4 => K (IntKind.wrap .i64 (s.1 + ((1 : Int))), ()) h4))
  (Wk h1 fun h5 => R (.int .i64 ((-1 : Int))) h5))
  ((0 : Int), ()) h
theorem S53_eq (p0 : Sl) (p1 : Value) (h : V) (R : Value → V → Prop) : ABody Try.prog an53 Try.f53 [(.slice p0.a p0.n p0.c), p1] h R = S53 p0 p1 h R := by kernel_rfl
theorem S53_ok (p0 : Sl) (p1 : Value) (h : V) (R : Value → V → Prop) (hk : S53 p0 p1 h R) : ACalls Try.prog 53 [(.slice p0.a p0.n p0.c), p1] h R :=
  ABody_sound mixed Try.func53 Try.call53 (by kernel_rfl) (by kernel_rfl) (an := an53) (by rw [S53_eq]; exact hk)

/- (palings/ssa.Prog).Check -/
def an10 : An := (.two .nil (.two (.two .nil (.one (.loop [(14, (.one (.int .i64)))] (.two .nil (.two (.two .nil .nil) (.two (.one (.two .nil (.two .nil (.two (.two .nil .nil) .nil)))) .nil)))))) (.cut [] (.two .nil (.two (.two .nil .nil) .nil)) (.two (.two .nil (.one (.loop [(62, (.one (.int .i64)))] (.two .nil (.two (.two .nil .nil) (.two (.one (.two .nil (.cut [] (.two .nil (.two (.two .nil .nil) .nil)) (.two (.two .nil (.one (.loop [(84, (.one (.int .i64)))] (.two .nil (.two (.two .nil .nil) (.two (.one (.two .nil (.two .nil (.two (.two .nil .nil) .nil)))) .nil)))))) (.two .nil (.one (.loop [(103, (.one (.int .i64)))] (.two .nil (.two (.two .nil .nil) (.two (.one (.two .nil (.two .nil (.two (.two .nil .nil) .nil)))) .nil)))))))))) .nil)))))) (.two .nil .nil)))))
def S10 (p0_0 : Sl) (p0_1 : Sl) (p0_2 : Int) (h : V) (R : Value → V → Prop) : Prop :=
  New h (.cells #[(.slice p0_0.a p0_0.n p0_0.c), (.slice p0_1.a p0_1.n p0_1.c), (.int .i64 p0_2)] 25) fun r1 h1 =>
  Ld h1 (Addr.add (⟨r1, 0, none⟩) 0) .sl fun (x12 : Sl) =>
  Lp (σ := (Int × Unit)) (fun K s h2 =>
  cond (decide (s.1 < (((x12.n : Nat) : Int))))
  (Ix x12 s.1 3 fun a16 =>
  LdA h2 a16 [.str, (.int .i64), (.int .i64)] fun (x17 : ((ByteArray) × (Int) × (Int) × Unit)) =>
  New h2 (.cells #[(.string (⟨#[]⟩)), (.int .i64 ((0 : Int))), (.int .i64 ((0 : Int)))] 66) fun r4 h3 =>
  StL h3 (⟨r4, 0, none⟩) 0 [(.string x17.1), (.int .i64 x17.2.1), (.int .i64 x17.2.2.1)] fun h4 =>
  Ld h4 (Addr.add (⟨r4, 0, none⟩) 2) (.int .i64) fun (x19 : Int) =>
  cond (decide (x19 < ((0 : Int))))
  (Wk h4 fun h5 => R (.int .i64 ((40 : Int))) h5)
  (Ld h4 (Addr.add (⟨r4, 0, none⟩) 2) (.int .i64) fun (x23 : Int) =>
  cond (decide (x23 > ((4096 : Int))))
  (Wk h4 fun h6 => R (.int .i64 ((40 : Int))) h6)
  (Ld h4 (Addr.add (⟨r4, 0, none⟩) 1) (.int .i64) fun (x28 : Int) =>
  cond (decide (x28 < ((0 : Int))))
  (Wk h4 fun h7 => R (.int .i64 ((40 : Int))) h7)
  (Ld h4 (Addr.add (⟨r4, 0, none⟩) 1) (.int .i64) fun (x33 : Int) =>
  cond (decide (x33 > ((2 : Int))))
  (Wk h4 fun h8 => R (.int .i64 ((40 : Int))) h8)
  (Wk h4 fun h9 => K (IntKind.wrap .i64 (s.1 + ((1 : Int))), ()) h9)))))
  (Cut (σ := (Unit)) (fun _ h10 =>
  Ld h10 (Addr.add (⟨r1, 0, none⟩) 1) .sl fun (x60 : Sl) =>
  Lp (σ := (Int × Unit)) (fun K_1 s_2 h11 =>
  cond (decide (s_2.1 < (((x60.n : Nat) : Int))))
  (Ix x60 s_2.1 2 fun a64 =>
  LdA h11 a64 [.str, .sl] fun (x65 : ((ByteArray) × (Sl) × Unit)) =>
  New h11 (.cells #[(.string (⟨#[]⟩)), (.slice none 0 0)] 46) fun r6 h12 =>
  StL h12 (⟨r6, 0, none⟩) 0 [(.string x65.1), (.slice x65.2.1.a x65.2.1.n x65.2.1.c)] fun h13 =>
  Cut (σ := (Unit)) (fun _ h14 =>
  Ld h14 (Addr.add (⟨r6, 0, none⟩) 1) .sl fun (x82 : Sl) =>
  Lp (σ := (Int × Unit)) (fun K_2 s_4 h15 =>
  cond (decide (s_4.1 < (((x82.n : Nat) : Int))))
  (Ix x82 s_4.1 6 fun a86 =>
  LdA h15 a86 [.sl, .sl, (.int .i64), (.int .i64), .sl, (.int .i64)] fun (x87 : ((Sl) × (Sl) × (Int) × (Int) × (Sl) × (Int) × Unit)) =>
  New h15 (.cells #[(.slice none 0 0), (.slice none 0 0), (.int .i64 ((0 : Int))), (.int .i64 ((0 : Int))), (.slice none 0 0), (.int .i64 ((0 : Int)))] 55) fun r8 h16 =>
  StL h16 (⟨r8, 0, none⟩) 0 [(.slice x87.1.a x87.1.n x87.1.c), (.slice x87.2.1.a x87.2.1.n x87.2.1.c), (.int .i64 x87.2.2.1), (.int .i64 x87.2.2.2.1), (.slice x87.2.2.2.2.1.a x87.2.2.2.2.1.n x87.2.2.2.2.1.c), (.int .i64 x87.2.2.2.2.2.1)] fun h17 =>
  LdA h17 (⟨r6, 0, none⟩) [.str, .sl] fun (x88 : ((ByteArray) × (Sl) × Unit)) =>
  LdA h17 (Addr.add (⟨r8, 0, none⟩) 2) [(.int .i64), (.int .i64), .sl, (.int .i64)] fun (x90 : ((Int) × (Int) × (Sl) × (Int) × Unit)) =>
  CallK Try.prog 23 [(.agg ⟨[(.string x88.1), (.slice x88.2.1.a x88.2.1.n x88.2.1.c)]⟩), (.agg ⟨[(.int .i64 x90.1), (.int .i64 x90.2.1), (.slice x90.2.2.1.a x90.2.2.1.n x90.2.2.1.c), (.int .i64 x90.2.2.2.1)]⟩)] h17 (.un (.one .bool)) fun (x91 : Bool) h18 =>
  cond (!x91)
  (Wk h18 fun h19 => R (.int .i64 ((40 : Int))) h19)
  (Ld h18 (Addr.add (⟨r8, 0, none⟩) 1) .sl fun (x95 : Sl) =>
  CallK Try.prog 24 [(.slice x95.a x95.n x95.c), (.func (.func 25) ⟨[]⟩ ⟨[(.pointer (some (⟨r1, 0, none⟩)))]⟩)] h18 (.un (.one .bool)) fun (x97 : Bool) h20 =>
  cond x97
  (Wk h20 fun h21 => R (.int .i64 ((40 : Int))) h21)
  (Wk h20 fun h22 => K_2 (IntKind.wrap .i64 (s_4.1 + ((1 : Int))), ()) h22)))
  (LdA h15 (⟨r6, 0, none⟩) [.str, .sl] fun (x100 : ((ByteArray) × (Sl) × Unit)) =>
  CallK Try.prog 27 [(.agg ⟨[(.string x100.1), (.slice x100.2.1.a x100.2.1.n x100.2.1.c)]⟩)] h15 (.un (.one .sl)) fun (x101 : Sl) h23 =>
  Lp (σ := (Int × Unit)) (fun K_3 s_5 h24 =>
  cond (decide (s_5.1 < (((x101.n : Nat) : Int))))
  (Ix x101 s_5.1 1 fun a106 =>
  Ld h24 a106 .mp fun (x107 : Option Nat) =>
  cond (!(Option.isNone x107))
  (Ld h24 (Addr.add (⟨r6, 0, none⟩) 1) .sl fun (x113 : Sl) =>
  Ix x113 s_5.1 6 fun a115 =>
  LdA h24 a115 [.sl, .sl, (.int .i64), (.int .i64), .sl, (.int .i64)] fun (x116 : ((Sl) × (Sl) × (Int) × (Int) × (Sl) × (Int) × Unit)) =>
  CallK Try.prog 28 [(.map x107), (.agg ⟨[(.slice x116.1.a x116.1.n x116.1.c), (.slice x116.2.1.a x116.2.1.n x116.2.1.c), (.int .i64 x116.2.2.1), (.int .i64 x116.2.2.2.1), (.slice x116.2.2.2.2.1.a x116.2.2.2.2.1.n x116.2.2.2.2.1.c), (.int .i64 x116.2.2.2.2.2.1)]⟩)] h24 (.un (.one .bool)) fun (x117 : Bool) h25 =>
  cond (!x117)
  (Wk h25 fun h26 => R (.int .i64 ((40 : Int))) h26)
  (Wk h25 fun h27 => K_3 (IntKind.wrap .i64 (s_5.1 + ((1 : Int))), ()) h27))
  (Wk h24 fun h28 => K_3 (IntKind.wrap .i64 (s_5.1 + ((1 : Int))), ()) h28))
  (Wk h24 fun h29 => K_1 (IntKind.wrap .i64 (s_2.1 + ((1 : Int))), ()) h29))
  ((0 : Int), ()) h23))
  ((0 : Int), ()) h14) fun J_1 =>
  Ld h13 (Addr.add (⟨r6, 0, none⟩) 1) .sl fun (x67 : Sl) =>
  cond ((((x67.n : Nat) : Int)) == ((0 : Int)))
  (Wk h13 fun h30 => R (.int .i64 ((40 : Int))) h30)
  (LdA h13 (⟨r6, 0, none⟩) [.str, .sl] fun (x71 : ((ByteArray) × (Sl) × Unit)) =>
  CallK Try.prog 21 [(.agg ⟨[(.string x71.1), (.slice x71.2.1.a x71.2.1.n x71.2.1.c)]⟩)] h13 (.un (.one .sl)) fun (x72 : Sl) h31 =>
  cond (decide ((((x72.n : Nat) : Int)) > ((6 : Int))))
  (Wk h31 fun h32 => R (.int .i64 ((40 : Int))) h32)
  (LdA h31 (⟨r6, 0, none⟩) [.str, .sl] fun (x77 : ((ByteArray) × (Sl) × Unit)) =>
  CallK Try.prog 22 [(.agg ⟨[(.string x77.1), (.slice x77.2.1.a x77.2.1.n x77.2.1.c)]⟩)] h31 (.un (.one .bool)) fun (x78 : Bool) h33 =>
  cond (!x78)
  (Wk h33 fun h34 => R (.int .i64 ((40 : Int))) h34)
  (Wk h33 fun h35 => J_1 (()) h35))))
  (Wk h11 fun h36 => R (.int .i64 ((0 : Int))) h36))
  ((0 : Int), ()) h10) fun J =>
  Ld h2 (Addr.add (⟨r1, 0, none⟩) 2) (.int .i64) fun (x38 : Int) =>
  cond (decide (x38 < ((0 : Int))))
  (Wk h2 fun h37 => R (.int .i64 ((40 : Int))) h37)
  (Ld h2 (Addr.add (⟨r1, 0, none⟩) 2) (.int .i64) fun (x42 : Int) =>
  Ld h2 (Addr.add (⟨r1, 0, none⟩) 1) .sl fun (x44 : Sl) =>
  cond (decide (x42 ≥ (((x44.n : Nat) : Int))))
  (Wk h2 fun h38 => R (.int .i64 ((40 : Int))) h38)
  (Ld h2 (Addr.add (⟨r1, 0, none⟩) 1) .sl fun (x50 : Sl) =>
  Ld h2 (Addr.add (⟨r1, 0, none⟩) 2) (.int .i64) fun (x52 : Int) =>
  Ix x50 x52 2 fun a53 =>
  LdA h2 a53 [.str, .sl] fun (x54 : ((ByteArray) × (Sl) × Unit)) =>
  CallK Try.prog 21 [(.agg ⟨[(.string x54.1), (.slice x54.2.1.a x54.2.1.n x54.2.1.c)]⟩)] h2 (.un (.one .sl)) fun (x55 : Sl) h39 =>
  cond (decide ((((x55.n : Nat) : Int)) > ((0 : Int))))
  (Wk h39 fun h40 => R (.int .i64 ((40 : Int))) h40)
  (Wk h39 fun h41 => J (()) h41)))))
  ((0 : Int), ()) h1
theorem S10_eq (p0_0 : Sl) (p0_1 : Sl) (p0_2 : Int) (h : V) (R : Value → V → Prop) : ABody Try.prog an10 Try.f10 [(.agg ⟨[(.slice p0_0.a p0_0.n p0_0.c), (.slice p0_1.a p0_1.n p0_1.c), (.int .i64 p0_2)]⟩)] h R = S10 p0_0 p0_1 p0_2 h R := by kernel_rfl
theorem S10_ok (p0_0 : Sl) (p0_1 : Sl) (p0_2 : Int) (h : V) (R : Value → V → Prop) (hk : S10 p0_0 p0_1 p0_2 h R) : ACalls Try.prog 10 [(.agg ⟨[(.slice p0_0.a p0_0.n p0_0.c), (.slice p0_1.a p0_1.n p0_1.c), (.int .i64 p0_2)]⟩)] h R :=
  ABody_sound mixed Try.func10 Try.call10 (by kernel_rfl) (by kernel_rfl) (an := an10) (by rw [S10_eq]; exact hk)

end Go.Proofs.Ytaefmhephoilmaa

/- Contracts of the functions of package ssa: small ones. -/
namespace Go.Proofs.Ytaefmhephoilmaa
open Go Go.VL

theorem c_Params {h : V} {nm : ByteArray} {s : Sl} {bs : List BlockD} {R : Value → V → Prop} (hs : isBlocks h s bs) (hR : ∀ s', isInts h s' (FuncD.params ⟨nm, bs⟩) → R (sV s') h) : ACalls Try.prog 21 [.agg ⟨[.string nm, sV s]⟩] h R := by
  refine S21_ok _ _ _ _ (New_box fun r h1 hr l b => ?_)
  refine ⟨s, b.cell rfl, cond_eqi (fun h0 => ?_) (fun h0 => ?_)⟩
  · have : bs = [] := List.eq_nil_of_length_eq_zero (by have := hs.len; omega)
    subst this
    exact ⟨h, l, hR ⟨none, 0, 0⟩ (isSl_nil _ _ _)⟩
  · cases bs with
    | nil => exact absurd (by simp [hs.len]) h0
    | cons b0 bs =>
      exact ⟨s, b.cell rfl, hs.ixn (k := 0) (by simp) fun a ⟨p, i, w, h1', h2, h3, hc⟩ => ⟨p, cellq_le l hc.1, h, l, hR p h1'⟩⟩

/- the greatest number of a value -/
def imax (a b : Int) : Int := if b > a then b else a
def mostB (n : Int) (b : BlockD) : Int := (b.ins.map InsD.dst).foldl imax (b.params.foldl imax n)
def FuncD.most (f : FuncD) : Int := f.blocks.foldl mostB 0

theorem foldl_take {α β : Type} (f : β → α → β) (b : β) (l : List α) {k : Nat} (hk : k < l.length) : (l.take (k + 1)).foldl f b = f ((l.take k).foldl f b) l[k] := by
  rw [List.take_succ_eq_append_getElem hk, List.foldl_append]; rfl

theorem c_Most {h : V} {nm : ByteArray} {s : Sl} {bs : List BlockD} {R : Value → V → Prop} (hs : isBlocks h s bs) (hR : R (iV (FuncD.most ⟨nm, bs⟩)) h) : ACalls Try.prog 13 [.agg ⟨[.string nm, sV s]⟩] h R := by
  refine S13_ok _ _ _ _ (New_box fun r h1 hr l b => ?_)
  refine ⟨s, b.cell rfl, ?_⟩
  refine Lp_count bs.length (fun k st hh => st = ((bs.take k).foldl mostB 0, (k : Int), ()) ∧ h1 = hh) ⟨rfl, rfl⟩ ?_
  rintro k _ _ K hk ⟨rfl, rfl⟩ hK
  refine cond_dec (fun hlt => ?_) (fun hge => ?_)
  · have hk' : k < bs.length := by have := hs.len; simp only at hlt; omega
    refine elem_block hs l hk' rfl rfl fun p i w hp hi hw r' h2 l2 l2' hr2 b2 => ?_
    refine ⟨p, b2.cell rfl, ?_⟩
    refine Lp_count bs[k].params.length (fun j st hh => st = ((bs[k].params.take j).foldl imax ((bs.take k).foldl mostB 0), (j : Int), ()) ∧ h2 = hh) ⟨rfl, rfl⟩ ?_
    rintro j _ _ K1 hj ⟨rfl, rfl⟩ hK1
    refine cond_dec (fun hlt => ?_) (fun hge => ?_)
    · have hj' : j < bs[k].params.length := by have := hp.len; simp only at hlt; omega
      refine hp.ixn hj' fun a ha => Ld_i (mono_int _ _ _ _ l2 ha) (Wk_self (hK1 _ _ hj' ⟨?_, rfl⟩))
      rw [foldl_take _ _ _ hj', wnat hj' hp.bd]
      rfl
    · have : j = bs[k].params.length := by have := hp.len; simp only at hge; omega
      subst this
      refine ⟨i, b2.cell rfl, ?_⟩
      refine Lp_count bs[k].ins.length (fun j st hh => st = (((bs[k].ins.map InsD.dst).take j).foldl imax (bs[k].params.foldl imax ((bs.take k).foldl mostB 0)), (j : Int), ()) ∧ h2 = hh) ⟨by simp, rfl⟩ ?_
      rintro j _ _ K2 hj ⟨rfl, rfl⟩ hK2
      refine cond_dec (fun hlt => ?_) (fun hge => ?_)
      · have hj' : j < bs[k].ins.length := by have := hi.len; simp only at hlt; omega
        refine elem_ins hi l2 hj' rfl rfl fun q hq r3 h3 l3 l3' hr3 b3 => ?_
        refine ⟨_, b3.cell rfl, h2, l3', hK2 _ _ hj' ⟨?_, rfl⟩⟩
        rw [foldl_take _ _ _ (by simpa using hj'), wnat hj' hi.bd]
        simp [imax]
      · have : j = bs[k].ins.length := by have := hi.len; simp only at hge; omega
        subst this
        refine ⟨h1, l2', hK _ _ hk' ⟨?_, rfl⟩⟩
        rw [foldl_take _ _ _ hk', wnat hk' hs.bd]
        simp [mostB, List.take_of_length_le]
  · have : k = bs.length := by have := hs.len; simp only at hge; omega
    subst this
    refine ⟨h, l, ?_⟩
    simpa [FuncD.most] using hR
end Go.Proofs.Ytaefmhephoilmaa

/- Going through a map. -/
namespace Go.VL
open Go

section
variable {kd : Kd}
def IterAt (kd : Kd) (h : V) (it r : Nat) (m left : List (Int × kd.T)) : Prop :=
  ∃ es clk seen, h it = some (.mapIter (some r) clk seen clk) ∧ h r = some (.map es clk) ∧ MapRep kd (.map es clk) m ∧
    left = ((m.zip es.toList).filter fun x => decide (¬ x.2.born ∈ seen)).map (·.1)
theorem IterAt.frame {h h' : V} {it r : Nat} {m left : List (Int × kd.T)} (i : IterAt kd h it r m left) (h1 : h' it = h it) (h2 : h' r = h r) : IterAt kd h' it r m left := by
  obtain ⟨es, clk, seen, a, b, c, d⟩ := i
  exact ⟨es, clk, seen, h1.trans a, h2.trans b, c, d⟩
theorem IterAt.le {h h' : V} {it r : Nat} {m left : List (Int × kd.T)} (i : IterAt kd h it r m left) (l : Le h h') : IterAt kd h' it r m left := by
  obtain ⟨es, clk, seen, a, b, c, d⟩ := i
  exact ⟨es, clk, seen, l _ _ a, l _ _ b, c, d⟩
theorem IterAt.map {h : V} {it r : Nat} {m left : List (Int × kd.T)} (i : IterAt kd h it r m left) : ∃ o, h r = some o ∧ MapRep kd o m := by
  obtain ⟨es, clk, seen, a, b, c, d⟩ := i
  exact ⟨_, b, c⟩
theorem filter_all {α : Type} (l : List α) (p : α → Bool) (h : ∀ x ∈ l, p x = true) : l.filter p = l := List.filter_eq_self.2 h
theorem Rng_map {h : V} {r : Nat} {o : Obj} {m : List (Int × kd.T)} {K : Nat → V → Prop} (ho : h r = some o) (hm : MapRep kd o m) (hk : ∀ it h', h it = none → Le h h' → (∀ b, b ≠ it → h' b = h b) → IterAt kd h' it r m m → K it h') : Rng h (some r) K := by
  obtain ⟨es, clk, rfl, he, hb, hc⟩ := hm.ex
  refine ⟨es, clk, ho, fun it hit => ?_⟩
  have hne : r ≠ it := fun e => by subst e; rw [hit] at ho; cases ho
  refine hk it _ hit (le_upd hit _) (fun b hb => upd_ne hb _) ⟨es, clk, #[], upd_self _ _ _, (upd_ne hne _).trans ho, hm, ?_⟩
  rw [filter_all _ _ (by simp)]
  have : m.length ≤ es.toList.length := by
    have := congrArg List.length he
    simp only [List.length_map] at this
    omega
  exact (List.map_fst_zip this).symm
theorem zip_get {α β : Type} {l : List α} {l' : List β} {i : Nat} {a : α} {b : β} : (l.zip l')[i]? = some (a, b) ↔ l[i]? = some a ∧ l'[i]? = some b := by
  simp [List.getElem?_zip_eq_some]
theorem NxtEnt {h : V} {it r : Nat} {m left : List (Int × kd.T)} {B : Value → Value → V → Prop} {X : Prop} (hI : IterAt kd h it r m left)
    (hT : ∀ p ∈ left, ∀ h', (∀ b, b ≠ it → h' b = h b) → IterAt kd h' it r m (left.filter fun q => decide (q.1 ≠ p.1)) → B (.int .i64 p.1) (kd.mk p.2) h') (hF : left = [] → X) :
    Nxt h it (fun _ _ h' => Ent h' it fun k v => B k v h') X := by
  obtain ⟨es, clk, seen, h1, h2, hm, hl⟩ := hI
  obtain ⟨es', clk', e, he, hb, hc⟩ := hm.ex
  cases e
  have hlen : m.length = es.toList.length := by
    have := congrArg List.length he
    simpa using this.symm
  refine .inr ⟨r, clk, seen, clk, es, clk, h1, h2, fun _ hne => ?_, fun e hmem hns => ?_, fun hall => hF ?_⟩
  · have hpos : 0 < es.size := Nat.pos_of_ne_zero fun h0 => hne (Array.eq_empty_of_size_eq_zero h0)
    exact ⟨es[0], Array.getElem_mem hpos, hc _ (by simp)⟩
  · have hne : r ≠ it := fun e => by subst e; rw [h2] at h1; cases h1
    obtain ⟨i, hi⟩ := List.mem_iff_getElem?.1 (show e ∈ es.toList by simpa using hmem)
    have hil : i < m.length := by rw [hlen]; exact (List.getElem?_eq_some_iff.1 hi).1
    have hmi : m[i]? = some m[i] := List.getElem?_eq_getElem hil
    have hkv : e.key = .int .i64 m[i].1 ∧ e.val = kd.mk m[i].2 := by
      have := congrArg (fun l => l[i]?) he
      simp only [List.getElem?_map, hi, hmi, Option.map_some, Option.some.injEq, Prod.mk.injEq] at this
      exact this
    have hin : m[i] ∈ left := by
      rw [hl]
      refine List.mem_map.2 ⟨(m[i], e), List.mem_filter.2 ⟨List.mem_of_getElem? (zip_get.2 ⟨hmi, hi⟩), by simpa using hns⟩, rfl⟩
    -- the entry with that stamp is this one
    have hfind : es.find? (fun x => x.born == e.born) = some e := by
      rw [← Array.find?_toList]
      have hx : ∃ x, es.toList.find? (fun x => x.born == e.born) = some x := by
        cases hx : es.toList.find? (fun x => x.born == e.born) with
        | some x => exact ⟨x, rfl⟩
        | none =>
          have := List.find?_eq_none.1 hx e (List.mem_of_getElem? hi)
          simp at this
      obtain ⟨x, hx⟩ := hx
      have hx1 := List.mem_of_find?_eq_some hx
      have hx2 := List.find?_some hx
      obtain ⟨j, hj⟩ := List.mem_iff_getElem?.1 hx1
      have hb2 : (es.toList.map (·.born))[i]? = (es.toList.map (·.born))[j]? := by
        simp only [List.getElem?_map, hi, hj, Option.map_some]
        congr 1
        exact (by simpa using hx2 : x.born = e.born).symm
      have hij : i = j := (List.getElem?_inj (by simp; exact (List.getElem?_eq_some_iff.1 hi).1) hb).1 hb2
      subst hij
      rw [hi] at hj
      cases hj
      exact hx
    have hB := hT m[i] hin (h.upd it (.mapIter (some r) clk (seen.push e.born) clk)) (fun b hb => upd_ne hb _) ⟨es, clk, seen.push e.born, upd_self _ _ _, (upd_ne hne _).trans h2, hm, ?_⟩
    · rw [← hkv.1, ← hkv.2] at hB
      exact ⟨r, clk, seen.push e.born, e.born, clk, es, e, upd_self _ _ _, by simp, (upd_ne hne _).trans h2, hfind, hB⟩
    · rw [hl, List.filter_map, List.filter_filter]
      congr 1
      apply List.filter_congr
      rintro ⟨q, x⟩ hqx
      obtain ⟨j, hj⟩ := List.mem_iff_getElem?.1 hqx
      obtain ⟨hj1, hj2⟩ := zip_get.1 hj
      have hkeys : q.1 = m[i].1 ↔ x.born = e.born := by
        have k1 : (mkeys m)[i]? = some m[i].1 := by simp only [mkeys, List.getElem?_map, hmi, Option.map_some]
        have k2 : (mkeys m)[j]? = some q.1 := by simp only [mkeys, List.getElem?_map, hj1, Option.map_some]
        have b1 : (es.toList.map (·.born))[i]? = some e.born := by simp only [List.getElem?_map, hi, Option.map_some]
        have b2 : (es.toList.map (·.born))[j]? = some x.born := by simp only [List.getElem?_map, hj2, Option.map_some]
        constructor
        · intro h
          have : i = j := (List.getElem?_inj (by rw [mkeys_len]; exact hil) hm.nodup).1 (by rw [k1, k2, h])
          subst this
          rw [b1] at b2; exact (Option.some.inj b2).symm
        · intro h
          have : i = j := (List.getElem?_inj (by simp; exact (List.getElem?_eq_some_iff.1 hi).1) hb).1 (by rw [b1, b2, h])
          subst this
          rw [k1] at k2; exact (Option.some.inj k2).symm
      simp only [Function.comp, Array.mem_push]
      rw [Bool.eq_iff_iff]
      simp only [Bool.and_eq_true, decide_eq_true_eq, Ne, hkeys]
      by_cases h5 : x.born ∈ seen <;> by_cases h6 : x.born = e.born <;> simp [h5, h6]
  · rw [hl]
    have : ((m.zip es.toList).filter fun x => decide (¬ x.2.born ∈ seen)) = [] := by
      rw [List.filter_eq_nil_iff]
      rintro ⟨q, x⟩ hqx
      have hx : x ∈ es.toList := (List.of_mem_zip hqx).2
      have := hall x (by simpa using hx) (hc x hx)
      simpa using this
    rw [this]; rfl
/- the map that is gone through may lose what has been come to -/
theorem MDel_iter {h : V} {it r : Nat} {m left : List (Int × kd.T)} {k : Int} {K : V → Prop} (hI : IterAt kd h it r m left) (hk : k ∉ mkeys left)
    (hK : ∀ h', (∀ b, b ≠ r → h' b = h b) → IterAt kd h' it r (mdel m k) left → K h') : MDel h (some r) (.int .i64) (.int .i64 k) K := by
  obtain ⟨es, clk, seen, h1, h2, hm, hl⟩ := hI
  obtain ⟨es', clk', e, he, hb, hc⟩ := hm.ex
  cases e
  have hne : it ≠ r := fun e => by subst e; rw [h2] at h1; cases h1
  obtain ⟨f1, f2⟩ := findNow_map (k := k) (n := 0) he
  refine ⟨es, clk, h2, ?_⟩
  cases hg : mget m k with
  | none =>
    refine .inr ⟨f2 hg, hK _ (fun b hb => upd_ne hb _) ⟨es, clk, seen, (upd_ne hne _).trans h1, upd_self _ _ _, ?_, ?_⟩⟩
    · rw [mdel_new (mget_none.1 hg)]; exact hm
    · rw [mdel_new (mget_none.1 hg)]; exact hl
  | some u =>
    obtain ⟨i, hi, hi2, hi3⟩ := f1 u hg
    rw [Nat.zero_add] at hi
    have hlen : i < es.toList.length := by
      have := congrArg List.length he
      simp only [List.length_map] at this
      rw [this]
      exact (List.getElem?_eq_some_iff.1 hi2).1
    have herase : (es.eraseIdxIfInBounds i).toList = es.toList.eraseIdx i := by
      simp only [Array.eraseIdxIfInBounds]
      split
      · simp
      · rename_i hx; exact absurd (by simpa using hlen) hx
    have hei : es.toList[i]? = some es.toList[i] := List.getElem?_eq_getElem hlen
    have hzip : ((mdel m k).zip (es.eraseIdxIfInBounds i).toList) = (m.zip es.toList).eraseIdx i := by
      rw [herase, mdel_at hi2 hi3]
      have key : ∀ (l : List (Int × kd.T)) (l' : List MapEntry) (i : Nat), l.length = l'.length → (l.eraseIdx i).zip (l'.eraseIdx i) = (l.zip l').eraseIdx i := by
        intro l
        induction l with
        | nil => intro l' i _; simp
        | cons a l ih =>
          intro l' i hll
          cases l' with
          | nil => simp at hll
          | cons b l' =>
            cases i with
            | zero => simp
            | succ i => simp [ih l' i (by simpa using hll)]
      refine key m es.toList i ?_
      have := congrArg List.length he
      simpa using this.symm
    refine .inl ⟨i, _, hi, hK _ (fun b hb => upd_ne hb _) ⟨_, clk, seen, (upd_ne hne _).trans h1, upd_self _ _ _, ⟨mdel_nodup hm.nodup k, _, _, rfl, ?_, ?_, ?_⟩, ?_⟩⟩
    · rw [herase, mdel_at hi2 hi3, erase_map, erase_map, he]
    · rw [herase, erase_map]
      exact hb.sublist (List.eraseIdx_sublist _ _)
    · intro e he'
      rw [herase] at he'
      exact hc e (List.mem_of_mem_eraseIdx he')
    · rw [hzip, hl]
      congr 1
      -- the entry that goes is none of those that are left
      have hseen : es.toList[i].born ∈ seen := by
        by_cases hs : es.toList[i].born ∈ seen
        · exact hs
        · exfalso
          refine hk ?_
          rw [hl]
          refine List.mem_map.2 ⟨(k, u), List.mem_map.2 ⟨((k, u), es.toList[i]), List.mem_filter.2 ⟨List.mem_of_getElem? (zip_get.2 ⟨hi2, hei⟩), by simpa using hs⟩, rfl⟩, rfl⟩
      have key : ∀ (l : List ((Int × kd.T) × MapEntry)) (i : Nat) (x : (Int × kd.T) × MapEntry), l[i]? = some x → x.2.born ∈ seen → l.filter (fun x => decide (¬ x.2.born ∈ seen)) = (l.eraseIdx i).filter (fun x => decide (¬ x.2.born ∈ seen)) := by
        intro l
        induction l with
        | nil => intro i x hx; simp at hx
        | cons a l ih =>
          intro i x hx hxs
          cases i with
          | zero => simp at hx; subst hx; simp [hxs]
          | succ i =>
            have := ih i x (by simpa using hx) hxs
            simp only [List.eraseIdx_cons_succ, List.filter_cons, this]
      exact key _ i _ (zip_get.2 ⟨hi2, hei⟩) hseen
theorem Rng_nil {h : V} {K : Nat → V → Prop} (hk : ∀ it h', h it = none → Le h h' → h' it = some (.mapIter none 0 #[] 0) → K it h') : Rng h none K :=
  fun it hit => hk it _ hit (le_upd hit _) (upd_self _ _ _)
theorem Nxt_nil {h : V} {it : Nat} {Kt : Value → Value → V → Prop} {X : Prop} (hi : h it = some (.mapIter none 0 #[] 0)) (hx : X) : Nxt h it Kt X := .inl ⟨_, _, _, hi, hx⟩
end
end Go.VL

/- Maps to true as sets. -/
namespace Go.VL
open Go

def SetRep (o : Obj) (s : Int → Bool) : Prop := ∃ m : List (Int × Bool), MapRep .bool o m ∧ ∀ k, mget m k = if s k then some true else none
theorem SetRep.empty : SetRep (.map #[] 0) fun _ => false := ⟨[], MapRep.empty .bool, fun k => by simp [mget_nil]⟩
theorem SetRep.cong {o : Obj} {s s' : Int → Bool} (h : SetRep o s) (e : ∀ k, s k = s' k) : SetRep o s' := by
  have : s = s' := funext e
  exact this ▸ h
theorem SetRep.look {h : V} {r : Nat} {o : Obj} {s : Int → Bool} {k : Int} {K : Bool → Bool → Prop} (ho : h r = some o) (hs : SetRep o s) (hk : K (s k) (s k)) : Look h (some r) (.int .i64) (.int .i64 k) (.one .bool) false K := by
  obtain ⟨m, hm, hg⟩ := hs
  refine Look_map (kd := .bool) ho hm ?_
  rw [hg k]
  cases hsk : s k with
  | true => rw [hsk] at hk; exact hk
  | false => rw [hsk] at hk; exact hk
theorem SetRep.add {h : V} {r : Nat} {o : Obj} {s : Int → Bool} {k : Int} {K : V → Prop} (ho : h r = some o) (hs : SetRep o s) (hk : ∀ o', SetRep o' (fun j => s j || j == k) → K (h.upd r o')) : MUpd h (some r) (.int .i64) (.int .i64 k) (.bool true) K := by
  obtain ⟨m, hm, hg⟩ := hs
  refine MUpd_map (kd := .bool) (v := true) ho hm fun o' ho' => hk o' ⟨_, ho', fun j => ?_⟩
  rw [mget_mset]
  by_cases e : k = j
  · subst e; simp
  · have : (j == k) = false := by simpa using fun x : j = k => e x.symm
    rw [if_neg e, hg j]
    simp only [this, Bool.or_false]
theorem SetRep.mem {o : Obj} {s : Int → Bool} {m : List (Int × Bool)} (hm : MapRep .bool o m) (hg : ∀ k, mget m k = if s k then some true else none) {k : Int} : k ∈ mkeys m ↔ s k = true := by
  rw [← mget_isSome, hg k]
  cases s k <;> simp
theorem filter_lt {α : Type} {l : List (Int × α)} {p : Int × α} (hp : p ∈ l) : (l.filter fun q => decide (q.1 ≠ p.1)).length < l.length := by
  have h1 := List.length_filter_le (fun q => decide (q.1 ≠ p.1)) l
  rcases Nat.lt_or_ge (l.filter fun q => decide (q.1 ≠ p.1)).length l.length with h | h
  · exact h
  · exfalso
    have := List.length_filter_eq_length_iff.1 (Nat.le_antisymm h1 h) p hp
    simp at this
theorem keys_filter {α : Type} {l : List (Int × α)} {j k : Int} : k ∈ mkeys (l.filter fun q => decide (q.1 ≠ j)) ↔ k ∈ mkeys l ∧ k ≠ j := by
  simp only [mkeys, List.mem_map, List.mem_filter, decide_eq_true_eq]
  constructor
  · rintro ⟨p, ⟨h1, h2⟩, rfl⟩; exact ⟨⟨p, h1, rfl⟩, h2⟩
  · rintro ⟨⟨p, h1, rfl⟩, h2⟩; exact ⟨p, ⟨h1, h2⟩, rfl⟩
/- a loop through a map -/
theorem Lp_iter {kd : Kd} {σ : Type} {B : (σ → V → Prop) → σ → Value → Value → V → Prop} {X : (σ → V → Prop) → σ → V → Prop} {it r : Nat} {m0 : List (Int × kd.T)} (I : List (Int × kd.T) → List (Int × kd.T) → σ → V → Prop) {s : σ} {h : V}
    (h0 : IterAt kd h it r m0 m0) (i0 : I m0 m0 s h)
    (hstep : ∀ m left s h h' p K, IterAt kd h it r m left → I m left s h → p ∈ left → (∀ b, b ≠ it → h' b = h b) → IterAt kd h' it r m (left.filter fun q => decide (q.1 ≠ p.1)) →
      (∀ m' s' h', IterAt kd h' it r m' (left.filter fun q => decide (q.1 ≠ p.1)) → I m' (left.filter fun q => decide (q.1 ≠ p.1)) s' h' → K s' h') → B K s (.int .i64 p.1) (kd.mk p.2) h')
    (hend : ∀ m s h K, IterAt kd h it r m [] → I m [] s h → X K s h) :
    Lp (fun K s h => Nxt h it (fun _ _ h' => Ent h' it fun k v => B K s k v h') (X K s h)) s h := by
  refine Lp_inv (fun n s h => ∃ m left, n = left.length ∧ IterAt kd h it r m left ∧ I m left s h) ⟨m0, m0, rfl, h0, i0⟩ ?_
  rintro n s h K ⟨m, left, rfl, hI, hi⟩ hK
  refine NxtEnt hI (fun p hp h' hf hI' => ?_) (fun e => ?_)
  · exact hstep m left s h h' p K hI hi hp hf hI' fun m' s' h'' hI'' hi'' => hK _ s' h'' (filter_lt hp) ⟨m', _, rfl, hI'', hi''⟩
  · subst e
    exact hend m s h K hI hi
end Go.VL

/- Contracts of package ssa: what is known where. -/
namespace Go.Proofs.Ytaefmhephoilmaa
open Go Go.VL

def dsts (b : BlockD) : List Int := (b.ins.map InsD.dst).filter (· ≠ 0)
def afterD (s : Int → Bool) (b : BlockD) : Int → Bool := fun v => s v || b.params.contains v || (dsts b).contains v
theorem contains_take {l : List Int} {k : Nat} (hk : k < l.length) (v : Int) : (l.take (k + 1)).contains v = ((l.take k).contains v || v == l[k]) := by
  rw [List.take_succ_eq_append_getElem hk, Bool.eq_iff_iff]
  simp only [Bool.or_eq_true, List.contains_iff_mem, List.mem_append, List.mem_singleton, beq_iff_eq]

theorem c_after {h : V} {r : Nat} {o : Obj} {s : Int → Bool} {b : BlockD} {p i w : Sl} {R : Value → V → Prop} (ho : h r = some o) (hs : SetRep o s) (hp : isInts h p b.params) (hi : isInss h i b.ins)
    (hR : ∀ r' o' h', Le h h' → h r' = none → h' r' = some o' → SetRep o' (afterD s b) → R (.map (some r')) h') : ACalls Try.prog 43 [.map (some r), .agg ⟨blockV b p i w⟩] h R := by
  refine S43_ok _ _ _ _ _ _ _ _ _ (New_box fun r3 h1 hr3 l1 b3 => ?_)
  intro r11 hr11
  obtain ⟨m, hm, hg⟩ := hs
  have l2 : Le h1 (h1.upd r11 (.map #[] 0)) := le_upd hr11 _
  refine Rng_map (kd := .bool) ((l1.trans l2) _ _ ho) hm fun it h3 hit l3 f3 hI => ?_
  have hne : it ≠ r11 := fun e => by subst e; rw [upd_self] at hit; cases hit
  have hrr : r ≠ r11 := fun e => by subst e; rw [(l1 _ _ ho)] at hr11; cases hr11
  have hr11' : h r11 = none := l1.nil hr11
  refine Lp_iter (kd := .bool) (m0 := m) (B := fun K s k _ h5 => unK (.int .i64) k fun (x17 : Int) => MUpd h5 (some r11) (.int .i64) (.int .i64 x17) (.bool true) fun h6 => Wk h6 fun h7 => K () h7)
    (fun m' left _ hh => m' = m ∧ Le h1 hh ∧ ∃ o' s', hh r11 = some o' ∧ SetRep o' s' ∧ ∀ v, s' v = true ↔ v ∈ mkeys m ∧ v ∉ mkeys left) hI ⟨rfl, l2.trans l3, _, _, (f3 _ (fun e => hne e.symm)).trans (upd_self _ _ _), SetRep.empty, fun v => by simp⟩ ?_ ?_
  · rintro m' left _ hh h' q K hI1 ⟨rfl, l, o', s', ho', hs', hc⟩ hq hf hI2 hK
    refine unK_i (SetRep.add ((hf _ (fun e => hne e.symm)).trans ho') hs' fun o2 ho2 => ?_)
    have lh' : Le h1 h' := fun b x hb => (hf b (fun e => by subst e; have := l2 _ _ hb; rw [hit] at this; cases this)).trans (l _ _ hb)
    refine Wk_self (hK _ _ _ (hI2.frame (upd_ne hne _) (upd_ne hrr _)) ⟨rfl, lh'.upd hr11 _, o2, _, upd_self _ _ _, ho2, fun v => ?_⟩)
    rw [keys_filter]
    simp only [Bool.or_eq_true, hc v, beq_iff_eq]
    constructor
    · rintro (⟨h1, h2⟩ | rfl)
      · exact ⟨h1, fun h => h2 h.1⟩
      · obtain ⟨o3, ho3, hm3⟩ := hI1.map
        refine ⟨?_, fun h => h.2 rfl⟩
        obtain ⟨es, clk, seen, _, _, _, hl⟩ := hI1
        rw [hl] at hq
        obtain ⟨⟨p1, e1⟩, hp1, rfl⟩ := List.mem_map.1 hq
        exact List.mem_map.2 ⟨p1, (List.of_mem_zip (List.mem_filter.1 hp1).1).1, rfl⟩
    · rintro ⟨h1, h2⟩
      by_cases hv : v = q.1
      · exact .inr hv
      · exact .inl ⟨h1, fun h => h2 ⟨h, hv⟩⟩
  · rintro m' _ hh K hI1 ⟨rfl, l, o', s', ho', hs', hc⟩
    have hs' : SetRep o' s := hs'.cong fun k => by
      rw [Bool.eq_iff_iff, hc k, SetRep.mem hm hg]; simp [mkeys]
    refine ⟨p, cellq_le l (b3.cell rfl), ?_⟩
    refine Lp_count b.params.length (fun k st hh => st = ((k : Int), ()) ∧ Le h1 hh ∧ ∃ o', hh r11 = some o' ∧ SetRep o' (fun v => s v || (b.params.take k).contains v)) ⟨rfl, l, o', ho', hs'.cong fun k => by simp⟩ ?_
    rintro k _ hh K1 hk ⟨rfl, l, o', ho', hs'⟩ hK1
    refine cond_dec (fun hlt => ?_) (fun hge => ?_)
    · have hk' : k < b.params.length := by have := hp.len; simp only at hlt; omega
      refine hp.ixn hk' fun a ha => Ld_i (mono_int _ _ _ _ (l1.trans l) ha) (SetRep.add ho' hs' fun o2 ho2 => Wk_self (hK1 _ _ hk' ⟨?_, l.upd hr11 _, o2, upd_self _ _ _, ho2.cong fun v => ?_⟩))
      · rw [wnat hk' hp.bd]
      · rw [contains_take hk', Bool.or_assoc]
    · have : k = b.params.length := by have := hp.len; simp only at hge; omega
      subst this
      rw [List.take_of_length_le (Nat.le_refl _)] at hs'
      refine ⟨i, cellq_le l (b3.cell rfl), ?_⟩
      refine Lp_count b.ins.length (fun k st hh => st = ((k : Int), ()) ∧ Le h1 hh ∧ ∃ o', hh r11 = some o' ∧ SetRep o' (fun v => s v || b.params.contains v || (((b.ins.take k).map InsD.dst).filter (· ≠ 0)).contains v)) ⟨rfl, l, o', ho', hs'.cong fun k => by simp⟩ ?_
      rintro k _ hh K2 hk ⟨rfl, l, o', ho', hs'⟩ hK2
      refine cond_dec (fun hlt => ?_) (fun hge => ?_)
      · have hk' : k < b.ins.length := by have := hi.len; simp only at hlt; omega
        refine elem_ins hi (l1.trans l) hk' rfl rfl fun q hq r10 h13 l13 l13' hr10 b10 => ?_
        refine ⟨_, b10.cell rfl, ?_⟩
        have hne10 : r11 ≠ r10 := fun e => by subst e; rw [ho'] at hr10; cases hr10
        have htake : ((b.ins.take (k + 1)).map InsD.dst) = ((b.ins.take k).map InsD.dst) ++ [b.ins[k].dst] := by
          rw [List.take_succ_eq_append_getElem hk', List.map_append]; rfl
        refine cond_nei (fun hd => ?_) (fun hd => ?_)
        rotate_left
        · refine ⟨h13, Le.refl _, hK2 _ _ hk' ⟨by rw [wnat hk' hi.bd], l.trans l13', o', l13' _ _ ho', hs'.cong fun v => ?_⟩⟩
          rw [htake, List.filter_append]
          simp [hd]
        · refine ⟨_, b10.cell rfl, SetRep.add (l13' _ _ ho') hs' fun o2 ho2 => Wk_self (hK2 _ _ hk' ⟨by rw [wnat hk' hi.bd], (l.trans l13').upd hr11 _, o2, upd_self _ _ _, ho2.cong fun v => ?_⟩)⟩
          rw [htake, List.filter_append]
          have : ([b.ins[k].dst].filter (· ≠ 0)) = [b.ins[k].dst] := by simp [hd]
          rw [this]
          rw [Bool.eq_iff_iff]
          simp only [Bool.or_eq_true, List.contains_iff_mem, List.mem_append, List.mem_singleton, beq_iff_eq, or_assoc]
      · have : k = b.ins.length := by have := hi.len; simp only at hge; omega
        subst this
        rw [List.take_of_length_le (Nat.le_refl _)] at hs'
        exact Wk_self (hR r11 o' hh (l1.trans l) hr11' ho' hs')

/- which of a list a function says yes to -/
theorem c_index_int {h : V} {s : Sl} {l : List Int} {f : Value} {q : Int → Bool} {R : Value → V → Prop} (hs : isInts h s l)
    (hf : ∀ v (K : Bool → V → Prop), K (q v) h → CallV Try.prog f [iV v] h (.un (.one .bool)) K) (hR : ∀ n : Int, decide (n ≥ 0) = l.any q → R (iV n) h) : ACalls Try.prog 53 [sV s, f] h R := by
  refine S53_ok _ _ _ _ ?_
  refine Lp_count l.length (fun k st hh => st = ((k : Int), ()) ∧ h = hh ∧ (l.take k).any q = false) ⟨rfl, rfl, by simp⟩ ?_
  rintro k _ _ K hk ⟨rfl, rfl, hq⟩ hK
  refine cond_dec (fun hlt => ?_) (fun hge => ?_)
  · have hk' : k < l.length := by have := hs.len; simp only at hlt; omega
    refine hs.ixn hk' fun a ha => Ld_i ha (hf _ _ ?_)
    refine cond_b (fun hy => ?_) (fun hn => ?_)
    · refine Wk_self (hR _ ?_)
      have : l.any q = true := List.any_eq_true.2 ⟨_, List.getElem_mem hk', hy⟩
      rw [this]; simp
    · refine Wk_self (hK _ _ hk' ⟨by rw [wnat hk' hs.bd], rfl, ?_⟩)
      rw [List.take_succ_eq_append_getElem hk', List.any_append, hq]
      simp [hn]
  · have : k = l.length := by have := hs.len; simp only at hge; omega
    subst this
    rw [List.take_of_length_le (Nat.le_refl _)] at hq
    exact Wk_self (hR _ (by rw [hq]; rfl))
theorem c_contains_int {h : V} {s : Sl} {l : List Int} {f : Value} {q : Int → Bool} {R : Value → V → Prop} (hs : isInts h s l)
    (hf : ∀ v (K : Bool → V → Prop), K (q v) h → CallV Try.prog f [iV v] h (.un (.one .bool)) K) (hR : R (.bool (l.any q)) h) : ACalls Try.prog 46 [sV s, f] h R :=
  S46_ok _ _ _ _ (c_index_int hs hf fun n hn => ⟨n, rfl, Wk_self (by rw [hn]; exact hR)⟩)
theorem c_notin {h : V} {v : Int} {c0 : Addr} {r : Nat} {o : Obj} {s : Int → Bool} {R : Value → V → Prop} (hc : cellq h c0 = some (.map (some r))) (ho : h r = some o) (hs : SetRep o s) (hR : R (.bool (!s v)) h) :
    ACalls Try.prog 47 [iV v, .pointer (some c0)] h R :=
  S47_ok _ _ _ _ ⟨some r, hc, SetRep.look ho hs (Wk_self hR)⟩
theorem c_allin {h : V} {l : Sl} {xs : List Int} {c0 : Addr} {r : Nat} {o : Obj} {s : Int → Bool} {R : Value → V → Prop} (hl : isInts h l xs) (hc : cellq h c0 = some (.map (some r))) (ho : h r = some o) (hs : SetRep o s) (hR : R (.bool (xs.all s)) h) :
    ACalls Try.prog 45 [sV l, .pointer (some c0)] h R := by
  refine S45_ok _ _ _ _ (c_contains_int (q := fun v => !s v) hl (fun v K hK => c_notin hc ho hs ⟨_, rfl, hK⟩) ⟨_, rfl, Wk_self ?_⟩)
  have : (!xs.any fun v => !s v) = xs.all s := by
    rw [List.not_any_eq_all_not]; simp
  rw [this]; exact hR

/- whether a block uses what is known alone -/
def addD (s : Int → Bool) (d : Int) : Int → Bool := fun v => s v || (v == d && d != 0)
def usedIns : (Int → Bool) → List InsD → Option (Int → Bool)
  | s, [] => some s
  | s, i :: is => if i.args.all s then usedIns (addD s i.dst) is else none
def usedEnd (s : Int → Bool) (e : EndD) : Bool := e.ways.all (fun w => w.args.all s) && (e.val == 0 || s e.val)
def usedD (s : Int → Bool) (b : BlockD) : Bool := match usedIns (fun v => s v || b.params.contains v) b.ins with
  | some t => usedEnd t b.e
  | none => false
theorem usedIns_append : ∀ (l l' : List InsD) (s : Int → Bool), usedIns s (l ++ l') = (usedIns s l).bind fun t => usedIns t l'
  | [], _, _ => rfl
  | i :: l, l', s => by
    simp only [List.cons_append, usedIns]
    split
    · exact usedIns_append l l' _
    · rfl

theorem c_used {h : V} {r : Nat} {o : Obj} {s : Int → Bool} {b : BlockD} {p i w : Sl} {R : Value → V → Prop} (ho : h r = some o) (hs : SetRep o s) (hp : isInts h p b.params) (hi : isInss h i b.ins) (hw : isEdges h w b.e.ways)
    (hR : R (.bool (usedD s b)) h) : ACalls Try.prog 28 [.map (some r), .agg ⟨blockV b p i w⟩] h R := by
  refine S28_ok _ _ _ _ _ _ _ _ _ (New_box fun r3 h1 hr3 l1 b3 => ?_)
  intro r14 hr14
  obtain ⟨m, hm, hg⟩ := hs
  refine New_box fun r5 h3 hr5 l3 b5 => ?_
  have l12 : Le h1 (h1.upd r14 (.map #[] 0)) := le_upd hr14 _
  refine StL_box b5 rfl l3 hr5 fun h4 l4 b5 f4 => ?_
  have hr14' : h r14 = none := l1.nil hr14
  have hrr : r ≠ r14 := fun e => by subst e; rw [(l1 _ _ ho)] at hr14; cases hr14
  have h14 : h4 r14 = some (.map #[] 0) := l4 _ _ (upd_self _ _ _)
  have h5ne : r14 ≠ r5 := fun e => by subst e; rw [upd_self] at hr5; cases hr5
  have hr51 : h1 r5 = none := l12.nil hr5
  refine Rng_map (kd := .bool) ((l12.trans l4) _ _ (l1 _ _ ho)) hm fun it h5 hit l5 f5 hI => ?_
  have hne : it ≠ r14 := fun e => by subst e; rw [h14] at hit; cases hit
  have hne5 : it ≠ r5 := fun e => by subst e; rw [show h4 it = _ from b5] at hit; cases hit
  -- what is kept: h1, and the variable in which the map lies
  have cell5 : ∀ {hh : V}, hh r5 = some (.cells ⟨[.map (some r14)]⟩ 29) → cellq hh ⟨r5, 0, none⟩ = some (.map (some r14)) := fun {hh} e => Box.cell0 (show Box hh r5 [.map (some r14)] 29 from e)
  refine Lp_iter (kd := .bool) (m0 := m) (B := fun K s k _ h7 => unK (.int .i64) k fun (x20 : Int) => Ld h7 ⟨r5, 0, none⟩ .mp fun (x21 : Option Nat) => MUpd h7 x21 (.int .i64) (.int .i64 x20) (.bool true) fun h8 => Wk h8 fun h9 => K () h9)
    (fun m' left _ hh => m' = m ∧ Le h1 hh ∧ hh r5 = some (.cells ⟨[.map (some r14)]⟩ 29) ∧ ∃ o' s', hh r14 = some o' ∧ SetRep o' s' ∧ ∀ v, s' v = true ↔ v ∈ mkeys m ∧ v ∉ mkeys left) hI
    ⟨rfl, (l12.trans l4).trans l5, (f5 _ (fun e => hne5 e.symm)).trans b5, _, _, (f5 _ (fun e => hne e.symm)).trans h14, SetRep.empty, fun v => by simp⟩ ?_ ?_
  · rintro m' left _ hh h' q K hI1 ⟨rfl, l, c5, o', s', ho', hs', hc⟩ hq hf hI2 hK
    have c5' : h' r5 = _ := (hf _ (fun e => hne5 e.symm)).trans c5
    refine unK_i ⟨some r14, cell5 c5', SetRep.add ((hf _ (fun e => hne e.symm)).trans ho') hs' fun o2 ho2 => ?_⟩
    have lh' : Le h1 h' := fun b x hb => (hf b (fun e => by subst e; have := (l12.trans l4) _ _ hb; rw [hit] at this; cases this)).trans (l _ _ hb)
    refine Wk_self (hK _ _ _ (hI2.frame (upd_ne hne _) (upd_ne hrr _)) ⟨rfl, lh'.upd hr14 _, (upd_ne (fun e => h5ne e.symm) _).trans c5', o2, _, upd_self _ _ _, ho2, fun v => ?_⟩)
    rw [keys_filter]
    simp only [Bool.or_eq_true, hc v, beq_iff_eq]
    constructor
    · rintro (⟨h1, h2⟩ | rfl)
      · exact ⟨h1, fun h => h2 h.1⟩
      · refine ⟨?_, fun h => h.2 rfl⟩
        obtain ⟨es, clk, seen, _, _, _, hl⟩ := hI1
        rw [hl] at hq
        obtain ⟨⟨p1, e1⟩, hp1, rfl⟩ := List.mem_map.1 hq
        exact List.mem_map.2 ⟨p1, (List.of_mem_zip (List.mem_filter.1 hp1).1).1, rfl⟩
    · rintro ⟨h1, h2⟩
      by_cases hv : v = q.1
      · exact .inr hv
      · exact .inl ⟨h1, fun h => h2 ⟨h, hv⟩⟩
  · rintro m' _ hh K hI1 ⟨rfl, l, c5, o', s', ho', hs', hc⟩
    have hs' : SetRep o' s := hs'.cong fun k => by
      rw [Bool.eq_iff_iff, hc k, SetRep.mem hm hg]; simp [mkeys]
    refine ⟨p, cellq_le l (b3.cell rfl), ?_⟩
    refine Lp_count b.params.length (fun k st hh => st = ((k : Int), ()) ∧ Le h1 hh ∧ hh r5 = some (.cells ⟨[.map (some r14)]⟩ 29) ∧ ∃ o', hh r14 = some o' ∧ SetRep o' (fun v => s v || (b.params.take k).contains v)) ⟨rfl, l, c5, o', ho', hs'.cong fun k => by simp⟩ ?_
    rintro k _ hh K1 hk ⟨rfl, l, c5, o', ho', hs'⟩ hK1
    refine cond_dec (fun hlt => ?_) (fun hge => ?_)
    · have hk' : k < b.params.length := by have := hp.len; simp only at hlt; omega
      refine hp.ixn hk' fun a ha => Ld_i (mono_int _ _ _ _ (l1.trans l) ha) ⟨some r14, cell5 c5, SetRep.add ho' hs' fun o2 ho2 => Wk_self (hK1 _ _ hk' ⟨?_, l.upd hr14 _, (upd_ne (fun e => h5ne e.symm) _).trans c5, o2, upd_self _ _ _, ho2.cong fun v => ?_⟩)⟩
      · rw [wnat hk' hp.bd]
      · rw [contains_take hk', Bool.or_assoc]
    · have : k = b.params.length := by have := hp.len; simp only at hge; omega
      subst this
      rw [List.take_of_length_le (Nat.le_refl _)] at hs'
      refine ⟨i, cellq_le l (b3.cell rfl), ?_⟩
      refine Lp_count b.ins.length (fun k st hh => st = ((k : Int), ()) ∧ Le h1 hh ∧ hh r5 = some (.cells ⟨[.map (some r14)]⟩ 29) ∧ ∃ o' t, hh r14 = some o' ∧ SetRep o' t ∧ usedIns (fun v => s v || b.params.contains v) (b.ins.take k) = some t) ⟨rfl, l, c5, o', _, ho', hs', rfl⟩ ?_
      rintro k _ hh K2 hk ⟨rfl, l, c5, o', t, ho', hs', ht⟩ hK2
      refine cond_dec (fun hlt => ?_) (fun hge => ?_)
      · have hk' : k < b.ins.length := by have := hi.len; simp only at hlt; omega
        have htake : b.ins.take (k + 1) = b.ins.take k ++ [b.ins[k]] := List.take_succ_eq_append_getElem hk'
        refine elem_ins hi (l1.trans l) hk' rfl rfl fun q hq r11 h13 l13 l13' hr11 b11 => ?_
        refine ⟨q, b11.cell rfl, ?_⟩
        refine c_allin (hq.le mono_int l13) (cell5 (l13' _ _ c5)) (l13' _ _ ho') hs' ⟨_, rfl, ?_⟩
        refine cond_not (fun hn => ?_) (fun hy => ?_)
        · refine ⟨h, l1.trans (l.trans l13'), ?_⟩
          have : usedD s b = false := by
            unfold usedD
            have : usedIns (fun v => s v || b.params.contains v) b.ins = none := by
              conv => lhs; rw [← List.take_append_drop (k + 1) b.ins]
              rw [htake, List.append_assoc, usedIns_append, ht]
              simp only [Option.bind_some, List.singleton_append, usedIns, hn]
              rfl
            rw [this]
          rw [this] at hR
          exact hR
        · have hnext : usedIns (fun v => s v || b.params.contains v) (b.ins.take (k + 1)) = some (addD t b.ins[k].dst) := by
            rw [htake, usedIns_append, ht]
            simp only [Option.bind_some, usedIns, hy, if_true]
          refine ⟨_, b11.cell rfl, ?_⟩
          refine cond_nei (fun hd => ?_) (fun hd => ?_)
          · refine ⟨some r14, cell5 (l13' _ _ c5), _, b11.cell rfl, SetRep.add (l13' _ _ ho') hs' fun o2 ho2 => Wk_self (hK2 _ _ hk' ⟨by rw [wnat hk' hi.bd], (l.trans l13').upd hr14 _, (upd_ne (fun e => h5ne e.symm) _).trans (l13' _ _ c5), o2, _, upd_self _ _ _, ho2, ?_⟩)⟩
            rw [hnext]
            congr 1
            funext v
            unfold addD
            rw [show (b.ins[k].dst != 0) = true by simpa using hd, Bool.and_true]
          · refine Wk_self (hK2 _ _ hk' ⟨by rw [wnat hk' hi.bd], l.trans l13', l13' _ _ c5, o', t, l13' _ _ ho', hs', ?_⟩)
            rw [hnext]
            congr 1
            funext v
            unfold addD
            rw [hd]
            simp
      · have : k = b.ins.length := by have := hi.len; simp only at hge; omega
        subst this
        rw [List.take_of_length_le (Nat.le_refl _)] at ht
        have hU : usedD s b = usedEnd t b.e := by unfold usedD; rw [ht]
        refine ⟨w, by rw [Addr.add_add]; exact cellq_le l (b3.cell rfl), ?_⟩
        refine Lp_count b.e.ways.length (fun k st hh => st = ((k : Int), ()) ∧ Le h1 hh ∧ hh r5 = some (.cells ⟨[.map (some r14)]⟩ 29) ∧ hh r14 = some o' ∧ (b.e.ways.take k).all (fun w => w.args.all t) = true) ⟨rfl, l, c5, ho', by simp⟩ ?_
        rintro k _ hh K3 hk ⟨rfl, l, c5, ho', hall⟩ hK3
        refine cond_dec (fun hlt => ?_) (fun hge => ?_)
        · have hk' : k < b.e.ways.length := by have := hw.len; simp only at hlt; omega
          refine elem_edge hw (l1.trans l) hk' rfl rfl fun q hq r13 h13 l13 l13' hr13 b13 => ?_
          refine ⟨q, b13.cell rfl, ?_⟩
          refine c_allin (hq.le mono_int l13) (cell5 (l13' _ _ c5)) (l13' _ _ ho') hs' ⟨_, rfl, ?_⟩
          refine cond_not (fun hn => ?_) (fun hy => ?_)
          · refine ⟨h, l1.trans (l.trans l13'), ?_⟩
            have : usedD s b = false := by
              rw [hU]; unfold usedEnd
              have : b.e.ways.all (fun w => w.args.all t) = false := List.all_eq_false.2 ⟨_, List.getElem_mem hk', by simp [hn]⟩
              rw [this]; rfl
            rw [this] at hR
            exact hR
          · refine Wk_self (hK3 _ _ hk' ⟨by rw [wnat hk' hw.bd], l.trans l13', l13' _ _ c5, l13' _ _ ho', ?_⟩)
            rw [List.take_succ_eq_append_getElem hk', List.all_append, hall]
            simp [hy]
        · have : k = b.e.ways.length := by have := hw.len; simp only at hge; omega
          subst this
          rw [List.take_of_length_le (Nat.le_refl _)] at hall
          refine ⟨_, by rw [Addr.add_add]; exact cellq_le l (b3.cell rfl), ?_⟩
          have hU2 : usedD s b = (b.e.val == 0 || t b.e.val) := by rw [hU]; unfold usedEnd; rw [hall]; rfl
          refine cond_eqi (fun hz => ?_) (fun hz => ?_)
          · refine ⟨h, l1.trans l, ?_⟩
            rw [hU2, show (b.e.val == 0) = true by simpa using hz] at hR
            exact hR
          · refine ⟨some r14, cell5 c5, _, by rw [Addr.add_add]; exact cellq_le l (b3.cell rfl), SetRep.look ho' hs' ⟨h, l1.trans l, ?_⟩⟩
            rw [hU2, show (b.e.val == 0) = false by simpa using hz] at hR
            exact hR
end Go.Proofs.Ytaefmhephoilmaa

/- Contracts of package ssa: instructions and ends that are right. -/
namespace Go.Proofs.Ytaefmhephoilmaa
open Go Go.VL

def shapeD (o : Int) : Int × Bool :=
  if o = 1 ∨ o = 3 then (0, true) else if o = 2 then (2, true) else if o = 4 then (1, false) else if o = 5 then (1, true) else if o = 6 then (2, false) else if o = 7 then (-1, true) else (-2, false)
theorem c_shape {h : V} {o : Int} {R : Value → V → Prop} (hR : R (.tuple ⟨[iV (shapeD o).1, .bool (shapeD o).2]⟩) h) : ACalls Try.prog 41 [iV o] h R := by
  refine S41_ok _ _ _ (Cut_i (fun s hh => s = (decide (o = 1 ∨ o = 3), ()) ∧ h = hh) (fun J hJ => ?_) ?_)
  · refine cond_eqi (fun e => Wk_self (hJ _ _ ⟨by simp [e], rfl⟩)) (fun e => Wk_self (hJ _ _ ⟨?_, rfl⟩))
    have : (o == 3) = decide (o = 1 ∨ o = 3) := by simp [e]; rfl
    rw [this]
  · rintro _ _ ⟨rfl, rfl⟩
    refine cond_dec (fun e => Wk_self ?_) (fun e => ?_)
    · simpa [shapeD, e] using hR
    refine cond_eqi (fun e2 => Wk_self ?_) (fun e2 => ?_)
    · simpa [shapeD, e2] using hR
    refine cond_eqi (fun e3 => Wk_self ?_) (fun e3 => ?_)
    · simpa [shapeD, e3] using hR
    refine cond_eqi (fun e4 => Wk_self ?_) (fun e4 => ?_)
    · simpa [shapeD, e4] using hR
    refine cond_eqi (fun e5 => Wk_self ?_) (fun e5 => ?_)
    · simpa [shapeD, e5] using hR
    refine cond_eqi (fun e6 => Wk_self ?_) (fun e6 => Wk_self ?_)
    · simpa [shapeD, e6] using hR
    · simpa [shapeD, e, e2, e3, e4, e5, e6] using hR
def knownB (b : Int) : Bool := decide (1 ≤ b) && decide (b ≤ 15)
theorem c_Known {h : V} {b : Int} {R : Value → V → Prop} (hR : R (.bool (knownB b)) h) : ACalls Try.prog 42 [iV b] h R := by
  refine S42_ok _ _ _ (cond_dec (fun e => Wk_self ?_) (fun e => Wk_self ?_))
  · simpa [knownB, show 1 ≤ b from e] using hR
  · simpa [knownB, show ¬ 1 ≤ b from e] using hR

def rightD (p : ProgD) (i : InsD) : Bool :=
  if (shapeD i.op).1 = -2 then false
  else if 0 ≤ (shapeD i.op).1 ∧ (i.args.length : Int) ≠ (shapeD i.op).1 then false
  else if (shapeD i.op).2 ≠ decide (i.dst > 0) then false
  else if i.dst < 0 then false
  else if i.op = 2 then knownB i.bin
  else if i.op = 3 ∨ i.op = 4 then decide (0 ≤ i.arr) && (match p.arrays[i.arr.toNat]? with
    | some a => a.size == 0
    | none => false)
  else if i.op = 5 ∨ i.op = 6 then decide (0 ≤ i.arr) && (match p.arrays[i.arr.toNat]? with
    | some a => decide (a.size > 0)
    | none => false)
  else if i.op = 7 then decide (0 ≤ i.fn) && (match p.funcs[i.fn.toNat]? with
    | some f => (match f.blocks with
      | b :: _ => i.args.length == b.params.length
      | [] => false)
    | none => false)
  else true

theorem ix_ge {α : Type} {rep : V → Addr → α → Prop} {sz : Nat} {h : V} {s : Sl} {xs : List α} (hs : isSl rep sz h s xs) {i : Int} (h1 : ¬ i < (s.n : Int)) (h0 : i ≥ 0) : xs[i.toNat]? = none := by
  apply List.getElem?_eq_none
  have := hs.len; omega
theorem ix_lt {α : Type} {rep : V → Addr → α → Prop} {sz : Nat} {h : V} {s : Sl} {xs : List α} (hs : isSl rep sz h s xs) {i : Int} (h1 : i < (s.n : Int)) (h0 : i ≥ 0) : i.toNat < xs.length := by
  have := hs.len; omega

theorem c_right {h : V} {p : ProgD} {sa sf : Sl} {i : InsD} {q : Sl} {R : Value → V → Prop} (ha : isArrs h sa p.arrays) (hf : isFuncs h sf p.funcs) (hq : isInts h q i.args)
    (hR : R (.bool (rightD p i)) h) : ACalls Try.prog 26 [.agg ⟨[sV sa, sV sf, iV p.main]⟩, .agg ⟨insV i q⟩] h R := by
  refine S26_ok _ _ _ _ _ _ _ _ _ _ _ _ (New_box fun r2 h1 hr2 l1 b2 => New_box fun r3 h2 hr3 l2 b3 => ?_)
  have l := l1.trans l2
  have b2 := b2.le l2
  refine ⟨_, b3.cell rfl, c_shape ⟨((shapeD i.op).1, (shapeD i.op).2, ()), rfl, ?_⟩⟩
  have hB : ∀ b, rightD p i = b → Wk h2 fun h' => R (.bool b) h' := fun b e => ⟨h, l, by rw [← e]; exact hR⟩
  refine Cut_i (fun _ hh => h2 = hh ∧ (shapeD i.op).1 ≠ -2 ∧ ¬ (0 ≤ (shapeD i.op).1 ∧ (i.args.length : Int) ≠ (shapeD i.op).1) ∧ (shapeD i.op).2 = decide (i.dst > 0) ∧ ¬ i.dst < 0) (fun J hJ => ?_) ?_
  · refine cond_eqi (fun e => hB _ (by simp [rightD, show (shapeD i.op).1 = -2 from e])) (fun e => ?_)
    have rest : ¬ (0 ≤ (shapeD i.op).1 ∧ (i.args.length : Int) ≠ (shapeD i.op).1) → ∀ x : Int, x = i.dst →
        cond (!((shapeD i.op).2 == decide (x > 0))) (Wk h2 fun h' => R (.bool false) h') (Ld h2 (Addr.add ⟨r3, 0, none⟩ 1) (.int .i64) fun (y : Int) => cond (decide (y < 0)) (Wk h2 fun h' => R (.bool false) h') (Wk h2 fun h' => J () h')) := by
      rintro hn x rfl
      refine cond_not (fun e2 => hB _ ?_) (fun e2 => ?_)
      · have : (shapeD i.op).2 ≠ decide (i.dst > 0) := by simpa using e2
        simp only [rightD, if_neg e, if_neg hn, if_pos this]
      · have e2 : (shapeD i.op).2 = decide (i.dst > 0) := by simpa using e2
        refine ⟨_, b3.cell rfl, cond_dec (fun e3 => hB _ ?_) (fun e3 => Wk_self (hJ _ _ ⟨rfl, e, hn, e2, e3⟩))⟩
        have e3 : i.dst < 0 := e3
        have e2' : ¬ (shapeD i.op).2 ≠ decide (i.dst > 0) := fun x => x e2
        simp only [rightD, if_neg e, if_neg hn, if_neg e2', if_pos e3]
    refine cond_dec (fun e1 => ?_) (fun e1 => ?_)
    · refine ⟨q, b3.cell rfl, cond_nei (fun e2 => hB _ ?_) (fun e2 => ?_)⟩
      · have : 0 ≤ (shapeD i.op).1 ∧ (i.args.length : Int) ≠ (shapeD i.op).1 := ⟨e1, by rw [← hq.len]; exact e2⟩
        simp only [rightD, if_neg e, if_pos this]
      · exact ⟨_, b3.cell rfl, rest (fun x => x.2 (by rw [← hq.len]; exact e2)) _ rfl⟩
    · exact ⟨_, b3.cell rfl, rest (fun x => e1 x.1) _ rfl⟩
  · rintro _ _ ⟨rfl, g1, g2, g3, g4⟩
    have g3' : ¬ (shapeD i.op).2 ≠ decide (i.dst > 0) := fun x => x g3
    have base : rightD p i = (if i.op = 2 then knownB i.bin
      else if i.op = 3 ∨ i.op = 4 then decide (0 ≤ i.arr) && (match p.arrays[i.arr.toNat]? with
        | some a => a.size == 0
        | none => false)
      else if i.op = 5 ∨ i.op = 6 then decide (0 ≤ i.arr) && (match p.arrays[i.arr.toNat]? with
        | some a => decide (a.size > 0)
        | none => false)
      else if i.op = 7 then decide (0 ≤ i.fn) && (match p.funcs[i.fn.toNat]? with
        | some f => (match f.blocks with
          | b :: _ => i.args.length == b.params.length
          | [] => false)
        | none => false)
      else true) := by simp only [rightD, if_neg g1, if_neg g2, if_neg g3', if_neg g4]
    refine ⟨_, b3.cell rfl, cond_eqi (fun e2 => ?_) (fun e2 => ?_)⟩
    · refine ⟨_, b3.cell rfl, c_Known ⟨_, rfl, hB _ ?_⟩⟩
      rw [base, if_pos e2]
    have e2 : ¬ i.op = 2 := e2
    rw [if_neg e2] at base
    refine Cut_i (fun s hh => h2 = hh ∧ s = (decide (i.op = 3 ∨ i.op = 4), ())) (fun J hJ => ?_) ?_
    · refine cond_eqi (fun e => Wk_self (hJ _ _ ⟨rfl, ?_⟩)) (fun e => Wk_self (hJ _ _ ⟨rfl, ?_⟩))
      · have e : i.op = 3 := e; simp [e]
      · have e : ¬ i.op = 3 := e; simp [e]; rfl
    rintro _ _ ⟨rfl, rfl⟩
    refine cond_dec (fun e3 => ?_) (fun e3 => ?_)
    · rw [if_pos e3] at base
      refine ⟨_, b3.cell rfl, cond_dec (fun k0 => ⟨_, b3.cell rfl, sa, b2.cell rfl, cond_dec (fun k1 => ⟨sa, b2.cell rfl, _, b3.cell rfl, ?_⟩) (fun k1 => hB _ ?_)⟩) (fun k0 => hB _ ?_)⟩
      · refine ha.ix k0 (ix_lt ha k1 k0) fun a hc => ⟨_, cellq_le l hc.2.2.1, hB _ ?_⟩
        have k0' : 0 ≤ i.arr := k0
        rw [base, List.getElem?_eq_getElem (ix_lt ha k1 k0)]
        simp [k0']
      · rw [base, ix_ge ha k1 k0]; simp
      · have k0' : ¬ 0 ≤ i.arr := k0
        rw [base]; simp [k0']
    rw [if_neg e3] at base
    refine Cut_i (fun s hh => h2 = hh ∧ s = (decide (i.op = 5 ∨ i.op = 6), ())) (fun J hJ => ?_) ?_
    · refine cond_eqi (fun e => Wk_self (hJ _ _ ⟨rfl, ?_⟩)) (fun e => Wk_self (hJ _ _ ⟨rfl, ?_⟩))
      · have e : i.op = 5 := e; simp [e]
      · have e : ¬ i.op = 5 := e; simp [e]; rfl
    rintro _ _ ⟨rfl, rfl⟩
    refine cond_dec (fun e4 => ?_) (fun e4 => ?_)
    · rw [if_pos e4] at base
      refine ⟨_, b3.cell rfl, cond_dec (fun k0 => ⟨_, b3.cell rfl, sa, b2.cell rfl, cond_dec (fun k1 => ⟨sa, b2.cell rfl, _, b3.cell rfl, ?_⟩) (fun k1 => hB _ ?_)⟩) (fun k0 => hB _ ?_)⟩
      · refine ha.ix k0 (ix_lt ha k1 k0) fun a hc => ⟨_, cellq_le l hc.2.2.1, hB _ ?_⟩
        have k0' : 0 ≤ i.arr := k0
        rw [base, List.getElem?_eq_getElem (ix_lt ha k1 k0)]
        simp [k0']
      · rw [base, ix_ge ha k1 k0]; simp
      · have k0' : ¬ 0 ≤ i.arr := k0
        rw [base]; simp [k0']
    rw [if_neg e4] at base
    refine cond_eqi (fun e5 => ?_) (fun e5 => hB _ (by rw [base, if_neg e5]))
    have e5 : i.op = 7 := e5
    rw [if_pos e5] at base
    refine ⟨_, b3.cell rfl, cond_dec (fun k0 => ⟨_, b3.cell rfl, sf, b2.cell rfl, cond_dec (fun k1 => ⟨sf, b2.cell rfl, _, b3.cell rfl, ?_⟩) (fun k1 => hB _ ?_)⟩) (fun k0 => hB _ ?_)⟩
    · have hlt := ix_lt hf k1 k0
      refine hf.ix k0 hlt fun a ⟨s, hsb, hc⟩ => ⟨s, cellq_le l hc.2.1, cond_dec (fun k2 => ⟨q, b3.cell rfl, sf, b2.cell rfl, _, b3.cell rfl, hf.ix k0 hlt fun a' ⟨s', hsb', hc'⟩ => ⟨s', cellq_le l hc'.2.1, ?_⟩⟩) (fun k2 => hB _ ?_)⟩
      · have k2 : 0 < (p.funcs[i.fn.toNat]'hlt).blocks.length := by have := hsb.len; have k2' : (0 : Int) < (s.n : Int) := k2; omega
        refine hsb'.ixn (k := 0) k2 fun a2 ⟨pp, ii, ww, hp, _, _, hcc⟩ => ⟨pp, cellq_le l hcc.1, hB _ ?_⟩
        have k0' : 0 ≤ i.fn := k0
        rw [base, List.getElem?_eq_getElem hlt]
        simp only [k0', decide_true, Bool.true_and]
        rw [hq.len]
        rw [hp.len]
        obtain ⟨b0, bs, hbl⟩ : ∃ b0 bs, (p.funcs[i.fn.toNat]'hlt).blocks = b0 :: bs := by
          cases hb : (p.funcs[i.fn.toNat]'hlt).blocks with
          | nil => rw [hb] at k2; simp at k2
          | cons b0 bs => exact ⟨b0, bs, rfl⟩
        have e : (p.funcs[i.fn.toNat]'hlt).blocks[0]'k2 = b0 := Option.some.inj ((List.getElem?_eq_getElem k2).symm.trans (by rw [hbl]; rfl))
        rw [e, hbl, Bool.eq_iff_iff]
        simp only [beq_iff_eq]
        omega
      · have : (p.funcs[i.fn.toNat]'hlt).blocks = [] := List.eq_nil_of_length_eq_zero (by have := hsb.len; have k2' : ¬ (0 : Int) < (s.n : Int) := k2; omega)
        rw [base, List.getElem?_eq_getElem hlt]
        simp [this]
    · rw [base, ix_ge hf k1 k0]; simp
    · have k0' : ¬ 0 ≤ i.fn := k0
      rw [base]; simp [k0']

theorem c_wrong {h : V} {p : ProgD} {sa sf : Sl} {c0 : Addr} {i : InsD} {q : Sl} {R : Value → V → Prop} (hc : cellsAt h c0 0 [sV sa, sV sf, iV p.main]) (ha : isArrs h sa p.arrays) (hf : isFuncs h sf p.funcs) (hq : isInts h q i.args)
    (hR : R (.bool (!rightD p i)) h) : ACalls Try.prog 25 [.agg ⟨insV i q⟩, .pointer (some c0)] h R := by
  refine S25_ok _ _ _ _ _ _ _ _ _ _ (New_box fun r2 h1 hr2 l1 b2 => ⟨(sa, sf, p.main, ()), cellsAt_le l1 hc, (i.op, i.dst, q, i.num, i.bin, i.arr, i.fn, ()), b2.cells, ?_⟩)
  exact c_right (ha.le mono_arr l1) (hf.le mono_func l1) (hq.le mono_int l1) ⟨_, rfl, h, l1, hR⟩
theorem c_index_ins {h : V} {s : Sl} {l : List InsD} {f : Value} {q : InsD → Bool} {R : Value → V → Prop} (hs : isInss h s l)
    (hf : ∀ i p (K : Bool → V → Prop), isInts h p i.args → K (q i) h → CallV Try.prog f [.agg ⟨insV i p⟩] h (.un (.one .bool)) K) (hR : ∀ n : Int, decide (n ≥ 0) = l.any q → R (iV n) h) : ACalls Try.prog 40 [sV s, f] h R := by
  refine S40_ok _ _ _ _ ?_
  refine Lp_count l.length (fun k st hh => st = ((k : Int), ()) ∧ h = hh ∧ (l.take k).any q = false) ⟨rfl, rfl, by simp⟩ ?_
  rintro k _ _ K hk ⟨rfl, rfl, hq⟩ hK
  refine cond_dec (fun hlt => ?_) (fun hge => ?_)
  · have hk' : k < l.length := by have := hs.len; simp only at hlt; omega
    refine hs.ixn hk' fun a ⟨p, hp, hc⟩ => ⟨(l[k].op, l[k].dst, p, l[k].num, l[k].bin, l[k].arr, l[k].fn, ()), hc, hf _ _ _ hp ?_⟩
    refine cond_b (fun hy => ?_) (fun hn => ?_)
    · refine Wk_self (hR _ ?_)
      have : l.any q = true := List.any_eq_true.2 ⟨_, List.getElem_mem hk', hy⟩
      rw [this]; simp
    · refine Wk_self (hK _ _ hk' ⟨by rw [wnat hk' hs.bd], rfl, ?_⟩)
      rw [List.take_succ_eq_append_getElem hk', List.any_append, hq]
      simp [hn]
  · have : k = l.length := by have := hs.len; simp only at hge; omega
    subst this
    rw [List.take_of_length_le (Nat.le_refl _)] at hq
    exact Wk_self (hR _ (by rw [hq]; rfl))
theorem c_contains_ins {h : V} {s : Sl} {l : List InsD} {f : Value} {q : InsD → Bool} {R : Value → V → Prop} (hs : isInss h s l)
    (hf : ∀ i p (K : Bool → V → Prop), isInts h p i.args → K (q i) h → CallV Try.prog f [.agg ⟨insV i p⟩] h (.un (.one .bool)) K) (hR : R (.bool (l.any q)) h) : ACalls Try.prog 24 [sV s, f] h R :=
  S24_ok _ _ _ _ (c_index_ins hs hf fun n hn => ⟨n, rfl, Wk_self (by rw [hn]; exact hR)⟩)

/- a block's end -/
def waysN (k : Int) : Option Int := mget [((1 : Int), (1 : Int)), (2, 2), (3, 0), (4, 0)] k
def wayOk (bs : List BlockD) (w : EdgeD) : Bool := decide (1 ≤ w.to) && (match bs[w.to.toNat]? with
  | some b => w.args.length == b.params.length
  | none => false)
def endsD (bs : List BlockD) (e : EndD) : Bool :=
  if waysN e.kind = none then false
  else if (e.ways.length : Int) ≠ (waysN e.kind).getD 0 then false
  else if decide (e.kind = 4) ≠ decide (e.trap = 1 ∨ e.trap = 2) then false
  else if decide (e.kind = 2 ∨ e.kind = 3) ≠ decide (e.val > 0) then false
  else if e.val < 0 then false
  else e.ways.all (wayOk bs)
abbrev endV (e : EndD) (w : Sl) : List Value := [iV e.kind, iV e.val, sV w, iV e.trap]
theorem c_ends {h : V} {nm : ByteArray} {s w : Sl} {bs : List BlockD} {e : EndD} {R : Value → V → Prop} (hs : isBlocks h s bs) (hw : isEdges h w e.ways) (hR : R (.bool (endsD bs e)) h) :
    ACalls Try.prog 23 [.agg ⟨[.string nm, sV s]⟩, .agg ⟨endV e w⟩] h R := by
  refine S23_ok _ _ _ _ _ _ _ _ (New_box fun r2 h1 hr2 l1 b2 => New_box fun r3 h2 hr3 l2 b3 => ?_)
  intro r10 hr10
  have l12 := l1.trans l2
  refine MUpd_map (kd := .int .i64) (v := (1 : Int)) (upd_self _ _ _) (MapRep.empty _) fun o1 ho1 => ?_
  refine MUpd_map (kd := .int .i64) (v := (2 : Int)) (upd_self _ _ _) ho1 fun o2 ho2 => ?_
  refine MUpd_map (kd := .int .i64) (v := (0 : Int)) (upd_self _ _ _) ho2 fun o3 ho3 => ?_
  refine MUpd_map (kd := .int .i64) (v := (0 : Int)) (upd_self _ _ _) ho3 fun o4 ho4 => ?_
  have ho4' : MapRep (.int .i64) o4 [((1 : Int), (1 : Int)), (2, 2), (3, 0), (4, 0)] := ho4
  generalize hg : (((((h2.upd r10 (.map #[] 0)).upd r10 o1).upd r10 o2).upd r10 o3).upd r10 o4) = h7
  have l7 : Le h2 h7 := by subst hg; exact ((((le_upd hr10 _).upd hr10 _).upd hr10 _).upd hr10 _).upd hr10 _
  have g7 : h7 r10 = some o4 := by subst hg; exact upd_self _ _ _
  have b2 := (b2.le l2).le l7
  have b3 := b3.le l7
  have l := l12.trans l7
  have hB : ∀ b, endsD bs e = b → Wk h7 fun h' => R (.bool b) h' := fun b x => ⟨h, l, by rw [← x]; exact hR⟩
  refine ⟨_, b3.cell rfl, Look_map (kd := .int .i64) g7 ho4' ?_⟩
  refine Cut_i (fun _ hh => h7 = hh ∧ waysN e.kind ≠ none ∧ (e.ways.length : Int) = (waysN e.kind).getD 0 ∧ decide (e.kind = 4) = decide (e.trap = 1 ∨ e.trap = 2) ∧ decide (e.kind = 2 ∨ e.kind = 3) = decide (e.val > 0) ∧ ¬ e.val < 0) (fun J hJ => ?_) ?_
  · refine cond_not (fun n0 => hB _ ?_) (fun n0 => ?_)
    · have : waysN e.kind = none := by
        have n0 : (waysN e.kind).isSome = false := n0
        simpa using n0
      simp [endsD, this]
    have n0 : waysN e.kind ≠ none := by
      have n0 : (waysN e.kind).isSome = true := n0
      intro x; rw [x] at n0; cases n0
    refine ⟨w, b3.cell rfl, cond_nei (fun n1 => hB _ ?_) (fun n1 => ?_)⟩
    · have n1 : (w.n : Int) ≠ (waysN e.kind).getD 0 := n1
      rw [hw.len] at n1
      simp only [endsD, if_neg n0, if_pos n1]
    have n1 : (e.ways.length : Int) = (waysN e.kind).getD 0 := by rw [← hw.len]; exact n1
    have n1' : ¬ (e.ways.length : Int) ≠ (waysN e.kind).getD 0 := fun x => x n1
    have tail2 : decide (e.kind = 4) = decide (e.trap = 1 ∨ e.trap = 2) → ∀ c : Bool, c = decide (e.kind = 2 ∨ e.kind = 3) → (Ld h7 (Addr.add ⟨r3, 0, none⟩ 1) (.int .i64) fun (x52 : Int) => cond (!(c == decide (x52 > 0))) (Wk h7 fun h' => R (.bool false) h')
        (Ld h7 (Addr.add ⟨r3, 0, none⟩ 1) (.int .i64) fun (x58 : Int) => cond (decide (x58 < 0)) (Wk h7 fun h' => R (.bool false) h') (Wk h7 fun h' => J () h'))) := by
      rintro n2 c rfl
      have n2' : ¬ decide (e.kind = 4) ≠ decide (e.trap = 1 ∨ e.trap = 2) := fun x => x n2
      refine ⟨_, b3.cell rfl, cond_not (fun n3 => hB _ ?_) (fun n3 => ⟨_, b3.cell rfl, cond_dec (fun n4 => hB _ ?_) (fun n4 => Wk_self (hJ _ _ ⟨rfl, n0, n1, n2, by simpa using n3, n4⟩))⟩)⟩
      · have : decide (e.kind = 2 ∨ e.kind = 3) ≠ decide (e.val > 0) := by simpa using n3
        simp only [endsD, if_neg n0, if_neg n1', if_neg n2', if_pos this]
      · have n3' : ¬ decide (e.kind = 2 ∨ e.kind = 3) ≠ decide (e.val > 0) := fun x => x (by simpa using n3)
        have n4 : e.val < 0 := n4
        simp only [endsD, if_neg n0, if_neg n1', if_neg n2', if_neg n3', if_pos n4]
    have tail : decide (e.kind = 4) = decide (e.trap = 1 ∨ e.trap = 2) → (Ld h7 (Addr.add ⟨r3, 0, none⟩ 0) (.int .i64) fun (x44 : Int) => cond (x44 == 2)
        (Ld h7 (Addr.add ⟨r3, 0, none⟩ 1) (.int .i64) fun (x52 : Int) => cond (!(true == decide (x52 > 0))) (Wk h7 fun h' => R (.bool false) h')
          (Ld h7 (Addr.add ⟨r3, 0, none⟩ 1) (.int .i64) fun (x58 : Int) => cond (decide (x58 < 0)) (Wk h7 fun h' => R (.bool false) h') (Wk h7 fun h' => J () h')))
        (Ld h7 (Addr.add ⟨r3, 0, none⟩ 0) (.int .i64) fun (x48 : Int) => Ld h7 (Addr.add ⟨r3, 0, none⟩ 1) (.int .i64) fun (x52 : Int) => cond (!((x48 == 3) == decide (x52 > 0))) (Wk h7 fun h' => R (.bool false) h')
          (Ld h7 (Addr.add ⟨r3, 0, none⟩ 1) (.int .i64) fun (x58 : Int) => cond (decide (x58 < 0)) (Wk h7 fun h' => R (.bool false) h') (Wk h7 fun h' => J () h')))) := by
      intro n2
      refine ⟨_, b3.cell rfl, cond_eqi (fun n3 => ?_) (fun n3 => ⟨_, b3.cell rfl, ?_⟩)⟩
      · have n3 : e.kind = 2 := n3
        exact tail2 n2 true (by simp [n3])
      · have n3 : ¬ e.kind = 2 := n3
        exact tail2 n2 (e.kind == 3) (by simp [n3]; rfl)
    have no2 : decide (e.kind = 4) ≠ decide (e.trap = 1 ∨ e.trap = 2) → endsD bs e = false := fun n2 => by simp only [endsD, if_neg n0, if_neg n1', if_pos n2]
    have d4 : (e.kind == 4) = decide (e.kind = 4) := rfl
    refine ⟨_, b3.cell rfl, _, b3.cell rfl, cond_eqi (fun t1 => cond_not (fun n2 => hB _ (no2 ?_)) (fun n2 => tail ?_)) (fun t1 => ⟨_, b3.cell rfl, cond_not (fun n2 => hB _ (no2 ?_)) (fun n2 => tail ?_)⟩)⟩
    · have t1 : e.trap = 1 := t1
      rw [t1]; simpa using n2
    · have t1 : e.trap = 1 := t1
      rw [t1]; simpa using n2
    · have t1 : ¬ e.trap = 1 := t1
      have n2 : (decide (e.kind = 4) == decide (e.trap = 2)) = false := n2
      simpa [t1] using n2
    · have t1 : ¬ e.trap = 1 := t1
      have n2 : ((e.kind == 4) == (e.trap == 2)) = true := n2
      have n2 := eq_of_beq n2
      rw [d4] at n2
      rw [n2]
      simp [t1]
      rfl
  · rintro _ _ ⟨rfl, n0, n1, n2, n3, n4⟩
    have base : endsD bs e = e.ways.all (wayOk bs) := by
      have n1' : ¬ (e.ways.length : Int) ≠ (waysN e.kind).getD 0 := fun x => x n1
      have n2' : ¬ decide (e.kind = 4) ≠ decide (e.trap = 1 ∨ e.trap = 2) := fun x => x n2
      have n3' : ¬ decide (e.kind = 2 ∨ e.kind = 3) ≠ decide (e.val > 0) := fun x => x n3
      simp only [endsD, if_neg n0, if_neg n1', if_neg n2', if_neg n3', if_neg n4]
    have hF : ∀ {hh k}, Le h7 hh → k < e.ways.length → (∀ hk : k < e.ways.length, wayOk bs e.ways[k] = false) → Wk hh fun h' => R (.bool false) h' := fun {hh k} lh hk x => ⟨h, l.trans lh, by
      have : endsD bs e = false := by rw [base]; exact List.all_eq_false.2 ⟨_, List.getElem_mem hk, by simp [x hk]⟩
      rw [this] at hR; exact hR⟩
    refine ⟨w, b3.cell rfl, ?_⟩
    refine Lp_count e.ways.length (fun k st hh => st = ((k : Int), ()) ∧ h7 = hh ∧ (e.ways.take k).all (wayOk bs) = true) ⟨rfl, rfl, by simp⟩ ?_
    rintro k _ _ K hk ⟨rfl, rfl, hall⟩ hK
    refine cond_dec (fun hlt => ?_) (fun hge => ?_)
    · have hk' : k < e.ways.length := by have := hw.len; simp only at hlt; omega
      refine elem_edge hw l hk' rfl rfl fun q hq r9 h11 l11 l11' hr9 b9 => ?_
      have b2' := b2.le l11'
      refine ⟨_, b9.cell rfl, cond_dec (fun m1 => hF l11' hk' fun _ => ?_) (fun m1 => ⟨_, b9.cell rfl, s, b2'.cell rfl, cond_dec (fun m2 => hF l11' hk' fun _ => ?_) (fun m2 => ⟨q, b9.cell rfl, s, b2'.cell rfl, _, b9.cell rfl, ?_⟩)⟩)⟩
      · have m1 : e.ways[k].to < 1 := m1
        have : ¬ 1 ≤ e.ways[k].to := by omega
        simp [wayOk, this]
      · have m1 : ¬ e.ways[k].to < 1 := m1
        have : bs[e.ways[k].to.toNat]? = none := ix_ge hs (by have m2 : e.ways[k].to ≥ (s.n : Int) := m2; omega) (by omega)
        simp [wayOk, this]
      · have m1 : ¬ e.ways[k].to < 1 := m1
        have hlt2 : e.ways[k].to.toNat < bs.length := ix_lt hs (by have m2 : ¬ e.ways[k].to ≥ (s.n : Int) := m2; omega) (by omega)
        refine hs.ix (by omega) hlt2 fun a ⟨pp, ii, ww, hp, _, _, hc⟩ => ⟨pp, cellq_le (l.trans l11') hc.1, cond_nei (fun m3 => hF l11' hk' fun _ => ?_) (fun m3 => ⟨h7, l11', hK _ _ hk' ⟨by rw [wnat hk' hw.bd], rfl, ?_⟩⟩)⟩
        · have m3 : (q.n : Int) ≠ (pp.n : Int) := m3
          rw [hq.len, hp.len] at m3
          simp only [wayOk, List.getElem?_eq_getElem hlt2]
          have : ¬ (e.ways[k].args.length = (bs[e.ways[k].to.toNat]'hlt2).params.length) := fun x => m3 (by rw [x])
          simp [this]
        · have m3 : (q.n : Int) = (pp.n : Int) := m3
          rw [hq.len, hp.len] at m3
          rw [List.take_succ_eq_append_getElem hk', List.all_append, hall]
          have h1 : 1 ≤ e.ways[k].to := by omega
          have h2 : e.ways[k].args.length = (bs[e.ways[k].to.toNat]'hlt2).params.length := by omega
          simp [wayOk, List.getElem?_eq_getElem hlt2, h1, h2]
    · have : k = e.ways.length := by have := hw.len; simp only at hge; omega
      subst this
      rw [List.take_of_length_le (Nat.le_refl _)] at hall
      exact hB _ (by rw [base, hall])
end Go.Proofs.Ytaefmhephoilmaa

/- Slices of a call's own: written to and appended to. -/
namespace Go.VL
open Go

/- cells stored one behind the other in a block -/
theorem StL_at {h : V} {r o : Nat} {t : TypeId} {K : V → Prop} : ∀ (vs : List Value) (arr : Array Value) (i : Nat) (h1 : V), o + i + vs.length ≤ arr.size → h1 r = some (.cells arr t (0, 0)) → (∀ b, b ≠ r → h1 b = h b) →
    (∀ h', (∃ arr' : Array Value, h' r = some (.cells arr' t (0, 0)) ∧ arr'.size = arr.size ∧ arr'.toList = arr.toList.take (o + i) ++ vs ++ arr.toList.drop (o + i + vs.length)) → (∀ b, b ≠ r → h' b = h b) → K h') → StL h1 ((⟨r, o, none⟩ : Addr)) i vs K
  | [], arr, i, h1, _, hb, hf, hk => hk h1 ⟨arr, hb, rfl, by simp⟩ hf
  | v :: vs, arr, i, h1, hl, hb, hf, hk => by
    have e : Addr.add ⟨r, o, none⟩ i = ⟨r, o + i, none⟩ := by unfold Addr.add; split <;> simp_all
    simp only [List.length_cons] at hl
    refine ⟨⟨_, _, 0, 0, by rw [e]; exact hb, by rw [e], by rw [e]; show o + i < _; omega, by rw [e]; simp⟩, ?_⟩
    rw [e]
    refine StL_at vs (arr.setIfInBounds (o + i) v) (i + 1) _ (by simp; omega) (setc_self (a := ⟨r, o + i, none⟩) hb v) (fun b hne => (setc_ne (a := ⟨r, o + i, none⟩) hne v).trans (hf b hne)) ?_
    rintro h' ⟨arr', h1', h3', h2'⟩ hF
    refine hk h' ⟨arr', h1', by rw [h3']; simp, ?_⟩ hF
    rw [h2', Array.toList_setIfInBounds]
    have hlt : o + i < arr.toList.length := by simp; omega
    rw [show o + (i + 1) = (o + i) + 1 by omega, List.take_succ_eq_append_getElem (by simpa using hlt)]
    simp only [List.getElem_set_self, List.length_cons]
    rw [show o + i + 1 + vs.length = o + i + (vs.length + 1) by omega]
    rw [List.take_set_of_le (Nat.le_refl _), List.drop_set_of_lt (by omega)]
    simp

/- a slice of a call's own: a stretch of a block that is none of h0's -/
def OwnS (h0 h : V) (s : Sl) (T : TypeId) (sz : Nat) (cs : List Value) : Prop :=
  cs.length = s.n * sz ∧ s.n ≤ s.c ∧ s.n ≤ 140737488355328 ∧
    ((s.a = none ∧ s.c = 0) ∨ ∃ r off arr, s.a = some ⟨r, off, none⟩ ∧ h0 r = none ∧ h r = some (.cells arr T (0, 0)) ∧ off + s.c * sz ≤ arr.size ∧ (arr.toList.drop off).take (s.n * sz) = cs)
theorem add_at (r off j : Nat) : Addr.add ⟨r, off, none⟩ j = ⟨r, off + j, none⟩ := by unfold Addr.add; split <;> simp_all
theorem OwnS.frame {h0 h h' : V} {s : Sl} {T : TypeId} {sz : Nat} {cs : List Value} (o : OwnS h0 h s T sz cs) (hf : ∀ a ob, s.a = some a → h a.block = some ob → h' a.block = some ob) : OwnS h0 h' s T sz cs := by
  obtain ⟨h1, h2, h3, h4⟩ := o
  refine ⟨h1, h2, h3, h4.imp id ?_⟩
  rintro ⟨r, off, arr, a, b, c, d⟩
  exact ⟨r, off, arr, a, b, hf _ _ a c, d⟩
theorem OwnS.le {h0 h h' : V} {s : Sl} {T : TypeId} {sz : Nat} {cs : List Value} (o : OwnS h0 h s T sz cs) (l : Le h h') : OwnS h0 h' s T sz cs := o.frame fun _ _ _ hh => l _ _ hh
theorem OwnS.base {h0 h1 h : V} {s : Sl} {T : TypeId} {sz : Nat} {cs : List Value} (o : OwnS h0 h s T sz cs) (l : Le h1 h0) : OwnS h1 h s T sz cs := by
  obtain ⟨h1, h2, h3, h4⟩ := o
  refine ⟨h1, h2, h3, h4.imp id ?_⟩
  rintro ⟨r, off, arr, a, b, c, d⟩
  exact ⟨r, off, arr, a, l.nil b, c, d⟩
theorem OwnS_nil (h0 h : V) (T : TypeId) (sz : Nat) : OwnS h0 h ⟨none, 0, 0⟩ T sz [] := ⟨by simp, Nat.le_refl _, Nat.zero_le _, .inl ⟨rfl, rfl⟩⟩
theorem OwnS.blk {h0 h : V} {s : Sl} {T : TypeId} {sz : Nat} {cs : List Value} (o : OwnS h0 h s T sz cs) {a : Addr} (ha : s.a = some a) : h0 a.block = none ∧ ∃ arr, h a.block = some (.cells arr T (0, 0)) := by
  rcases o.2.2.2 with ⟨h1, _⟩ | ⟨r, off, arr, h1, h2, h3, _⟩
  · rw [ha] at h1; cases h1
  · rw [ha] at h1; cases h1; exact ⟨h2, arr, h3⟩
theorem OwnS.cell {h0 h : V} {s : Sl} {T : TypeId} {sz : Nat} {cs : List Value} (o : OwnS h0 h s T sz cs) {j : Nat} {v : Value} (hv : cs[j]? = some v) : ∃ a, s.a = some a ∧ cellq h (a.add j) = some v := by
  obtain ⟨h1, h2, h3, h4⟩ := o
  rcases h4 with ⟨ha, hc⟩ | ⟨r, off, arr, ha, _, hr, hsz, ht⟩
  · have : cs.length = 0 := by rw [h1, show s.n = 0 by omega]; simp
    have := (List.getElem?_eq_some_iff.1 hv).1
    omega
  · refine ⟨_, ha, ?_⟩
    rw [add_at]
    unfold cellq
    rw [hr]
    simp only [Option.isSome_none, Bool.false_eq_true, if_false]
    have : arr.toList[off + j]? = some v := by
      rw [← ht] at hv
      rw [List.getElem?_take] at hv
      split at hv
      · rw [List.getElem?_drop] at hv; exact hv
      · cases hv
    simpa using this
theorem OwnS.cells {h0 h : V} {s : Sl} {T : TypeId} {sz : Nat} {cs : List Value} (o : OwnS h0 h s T sz cs) : slCells h s sz cs :=
  ⟨o.1, fun a ha => cellsAt_of fun j v hv => by
    obtain ⟨a', ha', hc⟩ := o.cell hv
    rw [ha] at ha'
    cases ha'
    rw [Nat.zero_add]; exact hc⟩
theorem OwnS.sl {α : Type} {rep : V → Addr → α → Prop} {enc : α → Value} (hrep : ∀ h a x, cellq h a = some (enc x) → rep h a x) {h0 h : V} {s : Sl} {T : TypeId} {l : List α} (o : OwnS h0 h s T 1 (l.map enc)) : isSl rep 1 h s l := by
  have h1 : s.n = l.length := by have := o.1; simp at this; omega
  refine ⟨h1, o.2.1, by have := o.2.2.1; omega, fun k hk => ?_⟩
  obtain ⟨a, ha, hc⟩ := o.cell (j := k) (v := enc l[k]) (by simp [hk])
  exact ⟨a, ha, hrep _ _ _ (by rw [Nat.mul_one]; exact hc)⟩
theorem OwnS.ints {h0 h : V} {s : Sl} {T : TypeId} {l : List Int} (o : OwnS h0 h s T 1 (l.map (Value.int .i64))) : isSl repInt 1 h s l := o.sl fun _ _ _ h => h
theorem OwnS.bools {h0 h : V} {s : Sl} {T : TypeId} {l : List Bool} (o : OwnS h0 h s T 1 (l.map Value.bool)) : isSl repBool 1 h s l := o.sl fun _ _ _ h => h
/- a new slice of equal elements -/
theorem MkSl_own {h : V} {n : Nat} {z : Value} {T : TypeId} {bytes : Nat} {K : Sl → V → Prop} (hb : n * bytes ≤ 140737488355328) (hpos : 0 < bytes) (hk : ∀ s h', Le h h' → OwnS h h' s T 1 (List.replicate n z) → s.n = n → (∀ b, h b ≠ none → h' b = h b) → (∃ a, s.a = some a) → K s h') :
    MkSl h (n : Int) (n : Int) [z] T bytes K := by
  have hn : n ≤ 140737488355328 := Nat.le_trans (Nat.le_mul_of_pos_right _ hpos) hb
  have hb' : (bytes : Int) * (n : Int) ≤ 281474976710656 := by
    have : ((bytes * n : Nat) : Int) ≤ 281474976710656 := by rw [Nat.mul_comm]; omega
    rwa [Int.natCast_mul] at this
  refine ⟨by omega, Int.le_refl _, hb', by omega, fun r hr => ?_⟩
  have hfl : (List.replicate n [z]).flatten = List.replicate n z := by
    induction n with
    | zero => rfl
    | succ n ih => simp [List.replicate_succ] at ih ⊢
  refine hk _ _ (le_upd hr _) ⟨by simp, Nat.le_refl _, by simpa using hn, .inr ⟨r, 0, _, rfl, hr, upd_self _ _ _, by simp, ?_⟩⟩ (by simp) (fun b hb => upd_ne (fun e => by subst e; exact hb hr) _) ⟨_, rfl⟩
  simp
/- a store into a slice of one's own -/
theorem OwnS.set {h0 h : V} {s : Sl} {T : TypeId} {cs : List Value} {K : V → Prop} (o : OwnS h0 h s T 1 cs) (l : Le h0 h) {i : Int} {v : Value} (hi0 : 0 ≤ i) (hi : i.toNat < cs.length)
    (hk : ∀ h', Le h0 h' → OwnS h0 h' s T 1 (cs.set i.toNat v) → (∀ b, (∀ a, s.a = some a → b ≠ a.block) → h' b = h b) → K h') : Ix s i 1 fun a => StL h a 0 [v] K := by
  obtain ⟨h1, h2, h3, h4⟩ := o
  rcases h4 with ⟨ha, hc⟩ | ⟨r, off, arr, ha, hr0, hr, hsz, ht⟩
  · have : cs.length = 0 := by rw [h1, show s.n = 0 by omega]
    omega
  · refine ⟨_, ha, hi0, by omega, ?_⟩
    rw [add_at, Nat.mul_one]
    refine StL_at (h := h) [v] arr 0 h (by simp; omega) hr (fun _ _ => rfl) ?_
    rintro h' ⟨arr', hr', hs', he'⟩ hF
    refine hk h' (fun b x hb => (hF b (fun e => by subst e; rw [hr0] at hb; cases hb)).trans (l _ _ hb)) ⟨by simpa using h1, h2, h3, .inr ⟨r, off, arr', ha, hr0, hr', by rw [hs']; exact hsz, ?_⟩⟩ (fun b hb => hF b (hb _ ha))
    rw [he', ← ht]
    apply List.ext_getElem?
    intro j
    have hlt : off + i.toNat < arr.toList.length := by simp; omega
    by_cases hj : j < s.n * 1
    · rw [List.getElem?_take_of_lt hj, List.getElem?_drop]
      by_cases hji : j = i.toNat
      · subst hji
        rw [List.getElem?_set_self (by simp; omega)]
        simp only [Nat.add_zero, List.append_assoc]
        rw [List.getElem?_append_right (by rw [List.length_take]; exact Nat.min_le_left _ _)]
        simp only [List.length_take]
        rw [Nat.min_eq_left (by omega)]
        simp
      · rw [List.getElem?_set_ne (by omega), List.getElem?_take_of_lt hj, List.getElem?_drop]
        simp only [Nat.add_zero, List.append_assoc]
        by_cases hlt2 : j < i.toNat
        · rw [List.getElem?_append_left (by simp; omega), List.getElem?_take_of_lt (by omega)]
        · rw [List.getElem?_append_right (by simp; omega)]
          simp only [List.length_take]
          rw [Nat.min_eq_left (by omega), List.singleton_append]
          obtain ⟨d, hd⟩ : ∃ d, off + j - (off + i.toNat) = d + 1 := ⟨j - i.toNat - 1, by omega⟩
          rw [hd, List.getElem?_cons_succ, List.getElem?_drop]
          congr 1
          simp; omega
    · rw [List.getElem?_take_eq_none (by omega), List.getElem?_set_ne (by omega), List.getElem?_take_eq_none (by omega)]

theorem App_own {h0 h : V} {s x : Sl} {T : TypeId} {sz bytes : Nat} {zero cs xs : List Value} {K : Sl → V → Prop} (l : Le h0 h) (o : OwnS h0 h s T sz cs) (hx : slCells h x sz xs) (hx0 : x.a = none → x.n = 0) (h1 : xs.all oneCell = true)
    (hz : zero.length = sz) (hpos : 0 < bytes) (hb : (s.n + x.n) * bytes ≤ 140737488355328)
    (hk : ∀ s' h', Le h0 h' → OwnS h0 h' s' T sz (cs ++ xs) → s'.n = s.n + x.n → (∀ b, (∀ a, s.a = some a → b ≠ a.block) → h b ≠ none → h' b = h b) → (∀ a', s'.a = some a' → (∃ a, s.a = some a ∧ a'.block = a.block) ∨ h a'.block = none) → K s' h') : App h s x T sz bytes zero K := by
  have hoc := o.cells
  obtain ⟨o1, o2, o3, o4⟩ := o
  have hn : s.n + x.n ≤ 140737488355328 := Nat.le_trans (Nat.le_mul_of_pos_right _ hpos) hb
  have hlen : (cs ++ xs).length = (s.n + x.n) * sz := by rw [List.length_append, o1, hx.1, Nat.add_mul]
  refine ⟨xs, hx0, hx, h1, fun hle => ⟨fun ha => ?_, fun a ha => ?_, fun ha => ?_⟩, fun hlt => ⟨hb, hpos, cs, fun ha => ?_, hoc, fun r c hr hc => ?_⟩⟩
  · rcases o4 with ⟨_, hc⟩ | ⟨r, off, arr, ha', _⟩
    · omega
    · rw [ha] at ha'; cases ha'
  · rcases o4 with ⟨ha', _⟩ | ⟨r, off, arr, ha', hr0, hr, hsz, ht⟩
    · rw [ha] at ha'; cases ha'
    · rw [ha] at ha'
      cases ha'
      rw [add_at]
      have hfit : s.n * sz + xs.length ≤ s.c * sz := by
        rw [hx.1, ← Nat.add_mul]; exact Nat.mul_le_mul_right _ hle
      refine StL_at (h := h) xs arr 0 h (by omega) hr (fun _ _ => rfl) ?_
      rintro h' ⟨arr', hr', hs', he'⟩ hF
      refine hk _ h' (fun b y hb => (hF b (fun e => by subst e; rw [hr0] at hb; cases hb)).trans (l _ _ hb)) ⟨hlen, hle, hn, .inr ⟨r, off, arr', ha, hr0, hr', by rw [hs']; exact hsz, ?_⟩⟩ rfl (fun b hbne _ => hF b (hbne _ ha)) (fun a' ha' => .inl ⟨a', ha', rfl⟩)
      have hoff : off ≤ arr.toList.length := by simp; omega
      rw [he', ← hlen]
      simp only [Nat.add_zero]
      have hd : (arr.toList.take (off + s.n * sz)).drop off = cs := by
        rw [List.drop_take, ← ht]
        congr 1
        omega
      rw [List.append_assoc, List.drop_append_of_le_length (by simp; omega), hd]
      rw [← List.append_assoc]
      exact List.take_left
  · rcases o4 with ⟨_, hc⟩ | ⟨r, off, arr, ha', _⟩
    · have h3 : x.n = 0 := by omega
      have h4 : s.n = 0 := by omega
      have : xs = [] := List.eq_nil_of_length_eq_zero (by rw [hx.1, h3]; simp)
      subst this
      exact hk _ h l ⟨hlen, by omega, hn, .inl ⟨ha, hc⟩⟩ rfl (fun _ _ _ => rfl) (fun a' ha' => .inl ⟨a', ha', rfl⟩)
    · rw [ha] at ha'; cases ha'
  · rcases o4 with ⟨_, hc⟩ | ⟨r, off, arr, ha', _⟩
    · omega
    · rw [ha] at ha'; cases ha'
  · refine hk _ _ (l.upd (l.nil hr) _) ⟨hlen, hc, hn, .inr ⟨r, 0, _, rfl, l.nil hr, upd_self _ _ _, ?_, ?_⟩⟩ rfl (fun b _ hbn => upd_ne (fun e => by subst e; exact hbn hr) _) (fun a' ha' => .inr (by cases ha'; exact hr))
    · simp only [List.size_toArray, List.length_append, List.length_flatten, List.map_replicate, List.sum_replicate_nat, o1, hx.1, hz, ← Nat.add_mul, Nat.zero_add]
      exact Nat.mul_le_mul_right _ (by omega)
    · show (((cs ++ xs) ++ _).drop 0).take ((s.n + x.n) * sz) = cs ++ xs
      rw [List.drop_zero, ← hlen]
      exact List.take_left
/- a slice that came in, as cells -/
theorem isSl_cells {α : Type} {rep : V → Addr → α → Prop} {enc : α → Value} (hrep : ∀ h a x, rep h a x → cellq h a = some (enc x)) {h : V} {s : Sl} {l : List α} (hs : isSl rep 1 h s l) : slCells h s 1 (l.map enc) ∧ (s.a = none → s.n = 0) := by
  refine ⟨⟨by simp [hs.1], fun a ha => cellsAt_of fun j v hv => ?_⟩, fun ha => ?_⟩
  · have hj : j < l.length := by have := (List.getElem?_eq_some_iff.1 hv).1; simpa using this
    obtain ⟨a', ha', hr⟩ := hs.2.2.2 j hj
    rw [ha] at ha'
    cases ha'
    rw [Nat.mul_one] at hr
    rw [Nat.zero_add, hrep _ _ _ hr]
    simp [hj] at hv
    rw [hv]
  · rcases Nat.eq_zero_or_pos s.n with h0 | h0
    · exact h0
    · obtain ⟨a', ha', _⟩ := hs.2.2.2 0 (by have := hs.1; omega)
      rw [ha] at ha'; cases ha'
/- one element -/
theorem App_one {h0 h : V} {s : Sl} {T : TypeId} {bytes r : Nat} {v z : Value} {cs : List Value} {K : Sl → V → Prop} {t : TypeId} (l : Le h0 h) (o : OwnS h0 h s T 1 cs) (b : Box h r [v] t) (h1 : oneCell v = true) (hpos : 0 < bytes) (hb : (s.n + 1) * bytes ≤ 140737488355328)
    (hk : ∀ s' h', Le h0 h' → OwnS h0 h' s' T 1 (cs ++ [v]) → s'.n = s.n + 1 → (∀ b, (∀ a, s.a = some a → b ≠ a.block) → h b ≠ none → h' b = h b) → (∀ a', s'.a = some a' → (∃ a, s.a = some a ∧ a'.block = a.block) ∨ h a'.block = none) → K s' h') : App h s ⟨some ⟨r, 0, none⟩, 1, 1⟩ T 1 bytes [z] K :=
  App_own l o ⟨rfl, fun a ha => by cases ha; exact b.cells⟩ (fun ha => by cases ha) (by simp [h1]) rfl hpos hb hk
/- s[1:] -/
theorem Slc_tail {h0 h : V} {s : Sl} {T : TypeId} {v : Value} {cs : List Value} {K : Sl → Prop} (o : OwnS h0 h s T 1 (v :: cs)) (hk : ∀ s', OwnS h0 h s' T 1 cs → s'.n + 1 = s.n → (∀ a', s'.a = some a' → ∃ a, s.a = some a ∧ a'.block = a.block) → K s') : Slc s (some 1) none none 1 K := by
  obtain ⟨h1, h2, h3, h4⟩ := o
  simp only [List.length_cons, Nat.mul_one] at h1
  refine ⟨by simp, by simp; omega, by simp; omega, by simp, ?_⟩
  simp only [Option.getD_some, Option.getD_none, Int.toNat_natCast]
  have e1 : Int.toNat 1 = 1 := rfl
  rw [e1]
  rcases h4 with ⟨ha, hc⟩ | ⟨r, off, arr, ha, hr0, hr, hsz, ht⟩
  · omega
  · by_cases hc1 : s.c = 1
    · rw [if_pos hc1]
      have hcs : cs = [] := List.eq_nil_of_length_eq_zero (by omega)
      subst hcs
      refine hk _ ⟨by simp; omega, by simp; omega, by simp; omega, .inr ⟨r, off, arr, ha, hr0, hr, by simp; omega, by simp; omega⟩⟩ (by simp; omega) (fun a' ha' => ⟨a', ha', rfl⟩)
    · rw [if_neg hc1, ha]
      refine hk _ ⟨by simp; omega, by simp; omega, by simp; omega, .inr ⟨r, off + 1, arr, by simp [add_at], hr0, hr, by simp; omega, ?_⟩⟩ (by simp; omega) (fun a' ha' => ⟨_, ha, ?_⟩)
      · simp only [Nat.mul_one]
        have : (arr.toList.drop off) = v :: (arr.toList.drop (off + 1)) := by
          have h0 : ((arr.toList.drop off).take (s.n * 1))[0]? = some v := by rw [ht]; rfl
          rw [List.getElem?_take_of_lt (by omega), List.getElem?_drop] at h0
          have hlt : off < arr.toList.length := (List.getElem?_eq_some_iff.1 h0).1
          rw [List.drop_eq_getElem_cons hlt]
          have := List.getElem?_eq_getElem hlt
          rw [Nat.add_zero] at h0
          rw [h0] at this
          cases this
          rfl
        rw [this] at ht
        obtain ⟨n, hn⟩ : ∃ n, s.n = n + 1 := ⟨s.n - 1, by omega⟩
        rw [hn] at ht ⊢
        simpa using ht
      · simp at ha'
        rw [← ha', Addr.blk]
end Go.VL
