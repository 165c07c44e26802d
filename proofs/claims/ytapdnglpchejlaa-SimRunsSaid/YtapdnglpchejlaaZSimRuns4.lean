/- A machine of package sim in memory. -/
import Derived.Test.YtapdnglpchejlaaZSimRuns3
import Derived.Test.YtapdnglpchejlaaProg
import Derived.KernelRfl
namespace Go.Proofs.Ytapdnglpchejlaa
open Go Go.VL

def kindOf : Obj → Nat
  | .cells _ T _ => T + 2
  | .map _ _ => 0
  | _ => 1
theorem kind_map {kd : Kd} {o : Obj} {m : List (Int × kd.T)} (h : MapRep kd o m) : kindOf o = 0 := by obtain ⟨es, clk, rfl, _⟩ := h.ex; rfl
structure FrH where
  fn : Int
  block : Int
  pos : Int
  q : Nat
  dst : Int
def encFr (y : FrH) : List Value := [iV y.fn, iV y.block, iV y.pos, .map (some y.q), iV y.dst]
theorem encFr_len (y : FrH) : (encFr y).length = 5 := rfl
def encLk (x : LeakD) : List Value := [iV x.kind, iV x.a, iV x.b]
theorem encLk_len (x : LeakD) : (encLk x).length = 3 := rfl
def mapIs (hh : V) (q : Nat) (vals : Int → Int) : Prop := ∃ o m, hh q = some o ∧ MapRep (.int .i64) o m ∧ ∀ v, (mget m v).getD (0 : Int) = vals v
def QFr (hh : V) (x : FrD) (y : FrH) : Prop := y.fn = x.fn ∧ y.block = x.block ∧ y.pos = x.pos ∧ y.dst = x.dst ∧ mapIs hh y.q x.vals
def repSl (h : V) (a : Addr) (s : Sl) : Prop := cellq h a = some (sV s)
theorem mono_sl : Mono repSl := fun _ _ _ _ l h => cellq_le l h
structure SimC (hB : V) (p : ProgD) (sa sf ms : Sl) (rows : List Sl) : Prop where
  arrs : isArrs hB sa p.arrays
  funcs : isFuncs hB sf p.funcs
  rows : isSl repSl 1 hB ms rows
theorem SimC.le {hB hC : V} {p : ProgD} {sa sf ms : Sl} {rows : List Sl} (c : SimC hB p sa sf ms rows) (l : Le hB hC) : SimC hC p sa sf ms rows := ⟨c.arrs.le mono_arr l, c.funcs.le mono_func l, c.rows.le mono_sl l⟩
def simV (p : ProgD) (sa sf fs lk ms : Sl) (S : MS) : List Value := [sV sa, sV sf, iV p.main, sV fs, iV S.val, iV S.trap, sV lk, iV S.steps, iV S.deep, sV ms, .bool S.fin]
structure SimW (hB hh : V) (p : ProgD) (r : Nat) (sa sf fs lk ms : Sl) (ys : List FrH) (rows : List Sl) (S : MS) : Prop where
  le : Le hB hh
  nil : hB r = none
  box : Box hh r (simV p sa sf fs lk ms S) 97
  ofs : OwnS hB hh fs 132 5 (ys.flatMap encFr)
  ylen : ys.length = S.fs.length
  yq : ∀ (k : Nat) x y, S.fs[k]? = some x → ys[k]? = some y → QFr hh x y
  ynil : ∀ (k : Nat) y, ys[k]? = some y → hB y.q = none
  ynd : (ys.map FrH.q).Nodup
  olk : OwnS hB hh lk 108 3 (S.leaks.flatMap encLk)
  rlen : rows.length = S.mem.length
  orow : ∀ (k : Nat) s l, rows[k]? = some s → S.mem[k]? = some l → OwnS hB hh s 2 1 (l.map (Value.int .i64))
  rnd : ∀ (i j : Nat) s t, i ≠ j → rows[i]? = some s → rows[j]? = some t → neB s t

section
variable {hB hh h' : V} {p : ProgD} {r : Nat} {sa sf fs lk ms : Sl} {ys : List FrH} {rows : List Sl} {S : MS}
theorem mapIs.keep {q : Nat} {vals : Int → Int} (m : mapIs hh q vals) (hK : ∀ o, hh q = some o → kindOf o = 0 → h' q = some o) : mapIs h' q vals := by
  obtain ⟨o, m, h1, h2, h3⟩ := m
  exact ⟨o, m, hK o h1 (kind_map h2), h2, h3⟩
theorem QFr.keep {x : FrD} {y : FrH} (q : QFr hh x y) (hK : ∀ o, hh y.q = some o → kindOf o = 0 → h' y.q = some o) : QFr h' x y := ⟨q.1, q.2.1, q.2.2.1, q.2.2.2.1, q.2.2.2.2.keep hK⟩
/- what isn't of one kind stays -/
def KeepK (hh h' : V) (τ : Nat) : Prop := ∀ b o, hh b = some o → kindOf o ≠ τ → h' b = some o
theorem own_keep {s : Sl} {T : TypeId} {sz : Nat} {cs : List Value} {τ : Nat} (o : OwnS hB hh s T sz cs) (hK : KeepK hh h' τ) (hT : T + 2 ≠ τ) : OwnS hB h' s T sz cs :=
  o.frame fun a ob ha hob => hK _ _ hob (by
    obtain ⟨_, arr, h2⟩ := o.blk ha
    rw [h2] at hob; cases hob; exact hT)
theorem box_keep {r : Nat} {cs : List Value} {T : TypeId} {τ : Nat} (b : Box hh r cs T) (hK : KeepK hh h' τ) (hT : T + 2 ≠ τ) : Box h' r cs T := hK _ _ b hT
theorem SimW.up (k : SimW hB hh p r sa sf fs lk ms ys rows S) (l : Le hh h') : SimW hB h' p r sa sf fs lk ms ys rows S :=
  ⟨k.le.trans l, k.nil, k.box.le l, k.ofs.le l, k.ylen, fun i x y hx hy => (k.yq i x y hx hy).keep fun o ho _ => l _ _ ho, k.ynil, k.ynd, k.olk.le l, k.rlen, fun i s t hs ht => (k.orow i s t hs ht).le l, k.rnd⟩
theorem SimW.base {hC : V} (k : SimW hB hh p r sa sf fs lk ms ys rows S) (lC : Le hC hh) (hn : ∀ b, hC b ≠ none → hB b ≠ none ∨ (hh b ≠ none → ∀ o, hh b = some o → (b ≠ r ∧ (∀ a, fs.a = some a → b ≠ a.block) ∧ (∀ y ∈ ys, b ≠ y.q) ∧ (∀ a, lk.a = some a → b ≠ a.block) ∧ ∀ s ∈ rows, ∀ a, s.a = some a → b ≠ a.block))) : SimW hC hh p r sa sf fs lk ms ys rows S := by
  have key : ∀ b o, hB b = none → hh b = some o → (¬ (b ≠ r ∧ (∀ a, fs.a = some a → b ≠ a.block) ∧ (∀ y ∈ ys, b ≠ y.q) ∧ (∀ a, lk.a = some a → b ≠ a.block) ∧ ∀ s ∈ rows, ∀ a, s.a = some a → b ≠ a.block)) → hC b = none := fun b o e1 e2 e3 => by
    cases hx : hC b with
    | none => rfl
    | some x =>
      rcases hn b (by rw [hx]; simp) with e | e
      · exact absurd e1 e
      · exact absurd (e (by rw [e2]; simp) o e2) e3
  refine ⟨lC, key _ _ k.nil k.box fun e => e.1 rfl, k.box, k.ofs.rebaseN fun a ha => ?_, k.ylen, k.yq, fun i y hy => ?_, k.ynd, k.olk.rebaseN fun a ha => ?_, k.rlen, fun i s t hs ht => (k.orow i s t hs ht).rebaseN fun a ha => ?_, k.rnd⟩
  · obtain ⟨e1, arr, e2⟩ := k.ofs.blk ha
    exact key _ _ e1 e2 fun e => e.2.1 a ha rfl
  · have hi : i < S.fs.length := by have := (List.getElem?_eq_some_iff.1 hy).1; rw [k.ylen] at this; exact this
    obtain ⟨_, _, _, _, o, m, h1, _⟩ := k.yq i _ y (List.getElem?_eq_getElem hi) hy
    exact key _ _ (k.ynil i y hy) h1 fun e => e.2.2.1 y (List.mem_of_getElem? hy) rfl
  · obtain ⟨e1, arr, e2⟩ := k.olk.blk ha
    exact key _ _ e1 e2 fun e => e.2.2.2.1 a ha rfl
  · obtain ⟨e1, arr, e2⟩ := (k.orow i s t hs ht).blk ha
    exact key _ _ e1 e2 fun e => e.2.2.2.2 s (List.mem_of_getElem? hs) a ha rfl
theorem SimW.less {hC : V} (k : SimW hB hh p r sa sf fs lk ms ys rows S) (l : Le hC hB) : SimW hC hh p r sa sf fs lk ms ys rows S :=
  k.base (l.trans k.le) fun b h => .inl (by
    cases hx : hC b with
    | none => exact absurd hx h
    | some x => rw [l _ _ hx]; simp)
/- a base that grows by what is new -/
theorem SimW.grow {hC : V} (k : SimW hB hh p r sa sf fs lk ms ys rows S) (l : Le hh h') (lC : Le hC h') (hn : ∀ b, hC b ≠ none → hB b ≠ none ∨ hh b = none) : SimW hC h' p r sa sf fs lk ms ys rows S := by
  refine (k.up l).base lC fun b hb => (hn b hb).imp id fun e _ _ _ => ⟨fun e' => ?_, fun a ha e' => ?_, fun y hy e' => ?_, fun a ha e' => ?_, fun s hs a ha e' => ?_⟩
  · have := k.box; unfold Box at this; rw [← e', e] at this; cases this
  · obtain ⟨_, arr, h⟩ := k.ofs.blk ha; rw [← e', e] at h; cases h
  · obtain ⟨i, hi⟩ := List.mem_iff_getElem?.1 hy
    have hl : i < S.fs.length := by have := (List.getElem?_eq_some_iff.1 hi).1; rw [k.ylen] at this; exact this
    obtain ⟨_, _, _, _, o, m, h1, _⟩ := k.yq i _ y (List.getElem?_eq_getElem hl) hi
    rw [← e', e] at h1; cases h1
  · obtain ⟨_, arr, h⟩ := k.olk.blk ha; rw [← e', e] at h; cases h
  · obtain ⟨i, hi⟩ := List.mem_iff_getElem?.1 hs
    have hl : i < S.mem.length := by have := (List.getElem?_eq_some_iff.1 hi).1; rw [k.rlen] at this; exact this
    obtain ⟨_, arr, h⟩ := (k.orow i s _ hi (List.getElem?_eq_getElem hl)).blk ha; rw [← e', e] at h; cases h
theorem SimW.box1 {r1 : Nat} {o1 : Obj} (k : SimW hB hh p r sa sf fs lk ms ys rows S) (l : Le hh h') (n1 : hh r1 = none) (b1 : h' r1 = some o1) :
    ∃ hC, Le hB hC ∧ SimW hC h' p r sa sf fs lk ms ys rows S ∧ hC r1 = some o1 := by
  refine ⟨hB.upd r1 o1, fun b o hb => ?_, k.grow l (fun b o hb => ?_) (fun b hb => ?_), upd_self _ _ _⟩
  · rw [upd_ne (fun e => by rw [e] at hb; have := k.le _ _ hb; rw [n1] at this; cases this)]; exact hb
  · by_cases e1 : b = r1
    · subst e1; rw [upd_self] at hb; cases hb; exact b1
    · rw [upd_ne e1] at hb; exact l _ _ (k.le _ _ hb)
  · by_cases e1 : b = r1
    · subst e1; exact .inr n1
    · rw [upd_ne e1] at hb; exact .inl hb
theorem SimW.addS {s : Sl} {T : TypeId} {sz : Nat} {cs : List Value} (k : SimW hB hh p r sa sf fs lk ms ys rows S) (l : Le hh h') (o : OwnS hh h' s T sz cs) :
    ∃ hC, Le hB hC ∧ SimW hC h' p r sa sf fs lk ms ys rows S ∧ OwnS hB hC s T sz cs := by
  have o' := o
  obtain ⟨e1, e2, e3, e4⟩ := o
  rcases e4 with ⟨ha, hc⟩ | ⟨b, off, arr, ha, hr0, hr, hsz, ht⟩
  · exact ⟨hB, Le.refl _, k.up l, e1, e2, e3, .inl ⟨ha, hc⟩⟩
  · obtain ⟨hC, k1, k2, k3⟩ := k.box1 l hr0 hr
    exact ⟨hC, k1, k2, e1, e2, e3, .inr ⟨b, off, arr, ha, k.le.nil hr0, k3, hsz, ht⟩⟩
/- a scalar of the machine -/
theorem SimW.sc {i : Nat} {v : Value} {S' : MS} {K : V → Prop} (k : SimW hB hh p r sa sf fs lk ms ys rows S) (hi : i < 11) (hc : (simV p sa sf fs lk ms S).set i v = simV p sa sf fs lk ms S') (h1 : S'.fs = S.fs) (h2 : S'.leaks = S.leaks) (h3 : S'.mem = S.mem)
    (hK : ∀ h', SimW hB h' p r sa sf fs lk ms ys rows S' → (∀ b, b ≠ r → h' b = hh b) → K h') : StL hh (Addr.add ⟨r, 0, none⟩ i) 0 [v] K := by
  refine Box.st k.box hi fun h' b' f => hK h' ?_ f
  have kk : KeepK hh h' 99 := fun b o hb hk => by
    rw [f b (fun e => by subst e; have := k.box; unfold Box at this; rw [hb] at this; cases this; exact hk rfl)]; exact hb
  refine ⟨fun b o hb => ?_, k.nil, hc ▸ b', own_keep k.ofs kk (by decide), by rw [h1]; exact k.ylen, fun i x y hx hy => (k.yq i x y (h1 ▸ hx) hy).keep fun o ho ht => kk _ _ ho (by rw [ht]; decide), k.ynil, k.ynd, by rw [h2]; exact own_keep k.olk kk (by decide), by rw [h3]; exact k.rlen, fun i s l hs hl => own_keep (k.orow i s l hs (h3 ▸ hl)) kk (by decide), k.rnd⟩
  rw [f b (fun e => by rw [e, k.nil] at hb; cases hb)]
  exact k.le _ _ hb
theorem SimW.at (k : SimW hB hh p r sa sf fs lk ms ys rows S) {i : Nat} {v : Value} (hv : (simV p sa sf fs lk ms S)[i]? = some v) : cellq hh (Addr.add ⟨r, 0, none⟩ i) = some v := k.box.cell hv
/- the top frame -/
def topA (fs : Sl) (n : Nat) (fa : Addr) : Prop := ∃ a, fs.a = some a ∧ fa = a.add (n * 5)
theorem SimW.frAt (k : SimW hB hh p r sa sf fs lk ms ys rows S) {n : Nat} {y : FrH} {fa : Addr} (hy : ys[n]? = some y) (hf : topA fs n fa) : cellsAt hh fa 0 (encFr y) := by
  obtain ⟨a, ha, rfl⟩ := hf
  have hn : n < ys.length := (List.getElem?_eq_some_iff.1 hy).1
  obtain ⟨a', ha', hr⟩ := (OwnS.slN encFr_len (by omega) k.ofs).2.2.2 n hn
  rw [ha] at ha'; cases ha'
  have : ys[n] = y := by rw [List.getElem?_eq_getElem hn] at hy; exact Option.some.inj hy
  rw [this] at hr
  exact hr
theorem SimW.frIx (k : SimW hB hh p r sa sf fs lk ms ys rows S) {n : Nat} {i : Int} {K : Addr → Prop} (hn : n < ys.length) (hi : i = (n : Nat)) (hK : ∀ fa, topA fs n fa → K fa) : Ix fs i 5 K := by
  subst hi
  obtain ⟨a, ha, h0, h1, _⟩ : Ix fs (n : Int) 5 fun _ => True := (OwnS.slN encFr_len (by omega) k.ofs).ixn hn fun _ _ => trivial
  exact ⟨a, ha, h0, h1, hK _ ⟨a, ha, by simp⟩⟩
/- a value of a frame turns -/
theorem SimW.setv {n : Nat} {x : FrD} {y : FrH} {v u : Int} {K : V → Prop} (k : SimW hB hh p r sa sf fs lk ms ys rows S) (hx : S.fs[n]? = some x) (hy : ys[n]? = some y)
    (hK : ∀ h', SimW hB h' p r sa sf fs lk ms ys rows { S with fs := S.fs.set n { x with vals := setV x.vals v u } } → K h') : MUpd hh (some y.q) (.int .i64) (.int .i64 v) (.int .i64 u) K := by
  obtain ⟨q1, q2, q3, q4, o, m, h1, h2, h3⟩ := k.yq n x y hx hy
  refine MUpd_map (kd := .int .i64) (v := u) h1 h2 fun o' ho' => hK _ ?_
  have kk : KeepK hh (hh.upd y.q o') 0 := fun b ob hb hk => by
    rw [upd_ne (fun e => by subst e; rw [h1] at hb; cases hb; exact hk (kind_map h2))]; exact hb
  have hnl : n < S.fs.length := (List.getElem?_eq_some_iff.1 hx).1
  refine ⟨k.le.upd (k.ynil n y hy) o', k.nil, box_keep k.box kk (by decide), own_keep k.ofs kk (by decide), by simp [k.ylen], fun i x' y' hx' hy' => ?_, k.ynil, k.ynd, own_keep k.olk kk (by decide), k.rlen, fun i s l hs hl => own_keep (k.orow i s l hs hl) kk (by decide), k.rnd⟩
  by_cases e : n = i
  · subst e
    rw [List.getElem?_set_self hnl] at hx'
    rw [hy] at hy'
    cases hy'
    rw [← Option.some.inj hx']
    refine ⟨q1, q2, q3, q4, o', _, upd_self _ _ _, ho', fun w => ?_⟩
    rw [mget_mset]
    show (if v = w then some u else mget m w).getD 0 = if w = v then u else x.vals w
    by_cases e : v = w
    · subst e; simp
    · rw [if_neg e, if_neg (fun e' : w = v => e e'.symm)]; exact h3 w
  · rw [List.getElem?_set_ne e] at hx'
    have q := k.yq i x' y' hx' hy'
    refine q.keep fun ob hob _ => ?_
    rw [upd_ne (fun e' => ?_)]
    · exact hob
    · have hi : i < ys.length := (List.getElem?_eq_some_iff.1 hy').1
      have hn : n < ys.length := (List.getElem?_eq_some_iff.1 hy).1
      have := (List.getElem?_inj (by simpa using hi) k.ynd).1 (show (ys.map FrH.q)[i]? = (ys.map FrH.q)[n]? by rw [List.getElem?_map, List.getElem?_map, hy, hy']; simp [e'])
      exact e this.symm
/- a number of a frame turns -/
theorem SimW.setf {n d : Nat} {x x' : FrD} {y y' : FrH} {fa : Addr} {v : Value} {K : V → Prop} (k : SimW hB hh p r sa sf fs lk ms ys rows S) (hx : S.fs[n]? = some x) (hy : ys[n]? = some y) (hf : topA fs n fa)
    (hd : d < 5) (he : encFr y' = (encFr y).take d ++ [v] ++ (encFr y).drop (d + 1)) (hq : y'.q = y.q) (hv : x'.vals = x.vals) (h1 : y'.fn = x'.fn) (h2 : y'.block = x'.block) (h3 : y'.pos = x'.pos) (h4 : y'.dst = x'.dst)
    (hK : ∀ h', SimW hB h' p r sa sf fs lk ms (ys.set n y') rows { S with fs := S.fs.set n x' } → (∀ b, (∀ a, fs.a = some a → b ≠ a.block) → h' b = hh b) → K h') : StL hh (fa.add d) 0 [v] K := by
  have hn : n < ys.length := (List.getElem?_eq_some_iff.1 hy).1
  have hyn : ys[n] = y := by rw [List.getElem?_eq_getElem hn] at hy; exact Option.some.inj hy
  obtain ⟨a, ha, rfl⟩ := hf
  have hset := OwnS.setN (enc := encFr) (sz := 5) (d := d) (vs := [v]) (K := K) y' encFr_len k.ofs k.le hn (by rw [hyn]; exact he) (by simp; omega) (by omega) fun h' l' o' f' => hK h' ?_ f'
  · obtain ⟨a', ha', _, _, hst⟩ := hset
    rw [ha] at ha'; cases ha'
    simpa using hst
  have kk : KeepK hh h' 134 := fun b ob hb hk => by
    rw [f' b (fun a2 ha2 e => by
      obtain ⟨_, arr, hh2⟩ := k.ofs.blk ha2
      rw [← e, hb] at hh2; cases hh2; exact hk rfl)]
    exact hb
  have hnl : n < S.fs.length := (List.getElem?_eq_some_iff.1 hx).1
  refine ⟨l', k.nil, box_keep k.box kk (by decide), o', by simp [k.ylen], fun i x2 y2 hx2 hy2 => ?_, fun i y2 hy2 => ?_, ?_, own_keep k.olk kk (by decide), k.rlen, fun i s l hs hl => own_keep (k.orow i s l hs hl) kk (by decide), k.rnd⟩
  · by_cases e : n = i
    · subst e
      rw [List.getElem?_set_self hnl] at hx2
      rw [List.getElem?_set_self hn] at hy2
      rw [← Option.some.inj hx2, ← Option.some.inj hy2]
      refine ⟨h1, h2, h3, h4, ?_⟩
      rw [hq, hv]
      exact (k.yq n x y hx hy).2.2.2.2.keep fun o ho ht => kk _ _ ho (by rw [ht]; decide)
    · rw [List.getElem?_set_ne e] at hx2 hy2
      exact (k.yq i x2 y2 hx2 hy2).keep fun o ho ht => kk _ _ ho (by rw [ht]; decide)
  · by_cases e : n = i
    · subst e
      rw [List.getElem?_set_self hn] at hy2
      rw [← Option.some.inj hy2, hq]
      exact k.ynil n y hy
    · rw [List.getElem?_set_ne e] at hy2
      exact k.ynil i y2 hy2
  · have : (ys.set n y').map FrH.q = ys.map FrH.q := by
      rw [List.map_set, hq]
      apply List.ext_getElem?
      intro i
      by_cases e : n = i
      · subst e
        rw [List.getElem?_set_self (by simpa using hn), List.getElem?_map, hy]; rfl
      · rw [List.getElem?_set_ne e]
    rw [this]; exact k.ynd
end
end Go.Proofs.Ytapdnglpchejlaa

/- Contracts of package sim: leak, trap, values, word, enter. -/
namespace Go.Proofs.Ytapdnglpchejlaa
open Go Go.VL

structure SimP (hB hh : V) (r : Nat) (fs lk : Sl) (ys : List FrH) (rows : List Sl) (S : MS) : Prop where
  le : Le hB hh
  nil : hB r = none
  ofs : OwnS hB hh fs 132 5 (ys.flatMap encFr)
  ylen : ys.length = S.fs.length
  yq : ∀ (k : Nat) x y, S.fs[k]? = some x → ys[k]? = some y → QFr hh x y
  ynil : ∀ (k : Nat) y, ys[k]? = some y → hB y.q = none
  ynd : (ys.map FrH.q).Nodup
  olk : OwnS hB hh lk 108 3 (S.leaks.flatMap encLk)
  rlen : rows.length = S.mem.length
  orow : ∀ (k : Nat) s l, rows[k]? = some s → S.mem[k]? = some l → OwnS hB hh s 2 1 (l.map (Value.int .i64))
  rnd : ∀ (i j : Nat) s t, i ≠ j → rows[i]? = some s → rows[j]? = some t → neB s t

section
variable {hB hh h' : V} {p : ProgD} {r : Nat} {sa sf fs lk ms : Sl} {ys : List FrH} {rows : List Sl} {S : MS} {R : Value → V → Prop}
theorem SimW.parts (k : SimW hB hh p r sa sf fs lk ms ys rows S) : SimP hB hh r fs lk ys rows S := ⟨k.le, k.nil, k.ofs, k.ylen, k.yq, k.ynil, k.ynd, k.olk, k.rlen, k.orow, k.rnd⟩
theorem SimP.st {i : Nat} {v : Value} {cs : List Value} {K : V → Prop} (P : SimP hB hh r fs lk ys rows S) (b : Box hh r cs 97) (hi : i < cs.length) (hc : cs.set i v = simV p sa sf fs lk ms S)
    (hK : ∀ h', SimW hB h' p r sa sf fs lk ms ys rows S → (∀ b, b ≠ r → h' b = hh b) → K h') : StL hh (Addr.add ⟨r, 0, none⟩ i) 0 [v] K := by
  refine Box.st b hi fun h' b' f => hK h' ?_ f
  have kk : KeepK hh h' 99 := fun q o hb hk => by
    rw [f q (fun e => by subst e; unfold Box at b; rw [hb] at b; cases b; exact hk rfl)]; exact hb
  refine ⟨fun b o hb => ?_, P.nil, hc ▸ b', own_keep P.ofs kk (by decide), P.ylen, fun i x y hx hy => (P.yq i x y hx hy).keep fun o ho ht => kk _ _ ho (by rw [ht]; decide), P.ynil, P.ynd, own_keep P.olk kk (by decide), P.rlen, fun i s l hs hl => own_keep (P.orow i s l hs hl) kk (by decide), P.rnd⟩
  rw [f b (fun e => by rw [e, P.nil] at hb; cases hb)]
  exact P.le _ _ hb
/- a word of an array turns -/
theorem SimW.setm {j : Nat} {s : Sl} {l : List Int} {i x : Int} {K : V → Prop} (k : SimW hB hh p r sa sf fs lk ms ys rows S) (hs : rows[j]? = some s) (hl : S.mem[j]? = some l) (h0 : 0 ≤ i) (hi : i.toNat < l.length)
    (hK : ∀ h', SimW hB h' p r sa sf fs lk ms ys rows { S with mem := S.mem.set j (l.set i.toNat x) } → K h') : Ix s i 1 fun a => StL hh a 0 [iV x] K := by
  have hjl : j < S.mem.length := (List.getElem?_eq_some_iff.1 hl).1
  have oj := k.orow j s l hs hl
  refine OwnS.set oj k.le h0 (by simpa using hi) fun h' l' o' f' => hK h' ?_
  have kk : KeepK hh h' 4 := fun q o hb hk => by
    rw [f' q (fun a ha e => by
      obtain ⟨_, arr, h2⟩ := oj.blk ha
      rw [← e, hb] at h2; cases h2; exact hk rfl)]
    exact hb
  refine ⟨l', k.nil, box_keep k.box kk (by decide), own_keep k.ofs kk (by decide), k.ylen, fun i x y hx hy => (k.yq i x y hx hy).keep fun o ho ht => kk _ _ ho (by rw [ht]; decide), k.ynil, k.ynd, own_keep k.olk kk (by decide), by simp [k.rlen], fun m t u ht hu => ?_, k.rnd⟩
  by_cases e : j = m
  · subst e
    rw [hs] at ht; cases ht
    rw [List.getElem?_set_self hjl] at hu
    rw [← Option.some.inj hu, List.map_set]
    exact o'
  · rw [List.getElem?_set_ne e] at hu
    exact (k.orow m t u ht hu).off (k.rnd m j t s (fun e' => e e'.symm) ht hs) f'
theorem c_leak {kd a b : Int} (k : SimW hB hh p r sa sf fs lk ms ys rows S) (hb : (S.leaks.length + 1) * 24 ≤ 140737488355328) (hR : ∀ h' lk', SimW hB h' p r sa sf fs lk' ms ys rows (leakS S kd a b) → R (.tuple ⟨[]⟩) h') :
    ACalls Try.prog 97 [.pointer (some ⟨r, 0, none⟩), iV kd, iV a, iV b] hh R := by
  refine S97_ok _ _ _ _ _ _ ⟨lk, by rw [Addr.add_add]; exact k.at rfl, New_box fun r18 h1 hr18 l1 b18 => ?_⟩
  have k1 := k.up l1
  refine App_enc (enc := encLk) (x := ⟨kd, a, b⟩) encLk_len (by omega) k1.le k1.olk b18 rfl rfl (by omega) hb fun s' h2 l2 o2 n2 f2 d2 => ?_
  have kk : KeepK h1 h2 110 := fun q o hq hk => by
    rw [f2 q (fun a ha e => by
      obtain ⟨_, arr, h⟩ := k1.olk.blk ha
      rw [← e, hq] at h; cases h; exact hk rfl) (by rw [hq]; simp)]
    exact hq
  show StL h2 (Addr.add (Addr.add ⟨r, 0, none⟩ 4) 2) 0 [sV s'] _
  rw [Addr.add_add]
  refine SimP.st (p := p) (sa := sa) (sf := sf) (ms := ms) (S := leakS S kd a b) (fs := fs) (lk := s') (ys := ys) (rows := rows) ⟨l2, k1.nil, own_keep k1.ofs kk (by decide), k1.ylen, fun i x y hx hy => (k1.yq i x y hx hy).keep fun o ho ht => kk _ _ ho (by rw [ht]; decide), k1.ynil, k1.ynd, o2, k1.rlen, fun i s l hs hl => own_keep (k1.orow i s l hs hl) kk (by decide), k1.rnd⟩
    (box_keep k1.box kk (by decide)) (by simp [simV]) rfl fun h3 k3 f3 => Wk_self (hR h3 s' k3)
theorem c_trap {t : Int} (k : SimW hB hh p r sa sf fs lk ms ys rows S) (hR : ∀ h', SimW hB h' p r sa sf fs lk ms ys rows (trapS S t) → R (.tuple ⟨[]⟩) h') :
    ACalls Try.prog 96 [.pointer (some ⟨r, 0, none⟩), iV t] hh R := by
  refine S96_ok _ _ _ _ ?_
  show StL hh (Addr.add (Addr.add ⟨r, 0, none⟩ 4) 1) 0 [iV t] _
  rw [Addr.add_add]
  refine k.sc (i := 5) (S' := { S with trap := t }) (by omega) rfl rfl rfl rfl fun h1 k1 _ => ?_
  exact k1.sc (i := 10) (S' := trapS S t) (by omega) rfl rfl rfl rfl fun h2 k2 _ => Wk_self (hR h2 k2)
theorem SimW.look {n : Nat} {x : FrD} {y : FrH} {fa : Addr} {v : Int} {K : Int → Bool → Prop} (k : SimW hB hh p r sa sf fs lk ms ys rows S) (hx : S.fs[n]? = some x) (hy : ys[n]? = some y) (hf : topA fs n fa) (hK : ∀ b, K (x.vals v) b) :
    Ld hh (Addr.add fa 3) .mp fun q => Look hh q (.int .i64) (.int .i64 v) (.one (.int .i64)) 0 K := by
  obtain ⟨_, _, _, _, o, m, h1, h2, h3⟩ := k.yq n x y hx hy
  have := cellsAt_get (k.frAt hy hf) 3 (.map (some y.q)) rfl
  rw [Nat.zero_add] at this
  refine ⟨some y.q, this, Look_map h1 h2 ?_⟩
  rw [h3]; exact hK _
theorem c_values {n : Nat} {x : FrD} {y : FrH} {fa : Addr} {s : Sl} {l : List Int} (k : SimW hB hh p r sa sf fs lk ms ys rows S) (hx : S.fs[n]? = some x) (hy : ys[n]? = some y) (hf : topA fs n fa) (hs : isInts hB s l) (hb : l.length ≤ 1048576)
    (hR : ∀ s' h', Le hh h' → OwnS hh h' s' 2 1 ((l.map x.vals).map (Value.int .i64)) → R (sV s') h') : ACalls Try.prog 98 [.pointer (some fa), sV s] hh R := by
  refine S98_ok _ _ _ _ ?_
  refine Lp_count l.length (fun j st h1 => st.2 = ((j : Int), ()) ∧ Le hh h1 ∧ OwnS hh h1 st.1 2 1 (((l.take j).map x.vals).map (Value.int .i64))) ⟨rfl, Le.refl _, OwnS_nil _ _ _ _⟩ ?_
  rintro j ⟨sm, jj, u⟩ h1 K hj ⟨hj2, l1, o1⟩ hK
  obtain ⟨rfl, -⟩ := hj2
  refine cond_dec (fun hlt => ?_) (fun hge => ?_)
  · have hj' : j < l.length := by have := hs.len; simp only at hlt; omega
    have k1 := k.up l1
    refine (hs.le mono_int (k.le.trans l1)).ixn hj' fun a ha => ⟨_, ha, ?_⟩
    refine k1.look hx hy hf fun _ => New_box fun r21 h2 hr21 l2 b21 => ?_
    have hlen := o1.1
    simp only [List.length_map, List.length_take, Nat.mul_one] at hlen
    refine App_one (l1.trans l2) (o1.le l2) b21 rfl (by omega) (by show (sm.n + 1) * 8 ≤ 140737488355328; omega) fun s' h3 l3 o3 _ f3 _ => Wk_self (hK _ _ hj' ⟨by rw [wnat hj' hs.bd], l3, ?_⟩)
    rw [List.take_succ_eq_append_getElem hj', List.map_append, List.map_append]
    exact o3
  · have : j = l.length := by have := hs.len; simp only at hge; omega
    subst this
    rw [List.take_of_length_le (Nat.le_refl _)] at o1
    exact Wk_self (hR sm h1 l1 o1)
theorem wrap_u64 {x : Int} (h : I64 x) : IntKind.wrap .u64 x = if x < 0 then x + 18446744073709551616 else x := by
  unfold IntKind.wrap I64 at *
  simp [IntKind.bits, IntKind.signed]
  split <;> omega
theorem c_word {arr i : Int} {l : List Int} (k : SimW hB hh p r sa sf fs lk ms ys rows S) (c : SimC hB p sa sf ms rows) (h0 : 0 ≤ arr) (hl : S.mem[arr.toNat]? = some l) (hi : I64 i)
    (hR1 : memIn S.mem arr i = false → ∀ h', SimW hB h' p r sa sf fs lk ms ys rows (trapS S 4) → R (.pointer none) h') (hR2 : memIn S.mem arr i = true → 0 ≤ i → i.toNat < l.length → ∀ s a0, rows[arr.toNat]? = some s → s.a = some a0 → R (.pointer (some (a0.add (i.toNat * 1)))) hh) :
    ACalls Try.prog 99 [.pointer (some ⟨r, 0, none⟩), iV arr, iV i] hh R := by
  have ha : arr.toNat < S.mem.length := (List.getElem?_eq_some_iff.1 hl).1
  have har : arr.toNat < rows.length := by rw [k.rlen]; exact ha
  have hrow : rows[arr.toNat]? = some rows[arr.toNat] := List.getElem?_eq_getElem har
  have o := k.orow _ _ _ hrow hl
  have hn : (rows[arr.toNat]).n = l.length := by have := o.1; simp at this; omega
  have hbd := o.2.2.1
  have hgd : S.mem.getD arr.toNat [] = l := by rw [List.getD_eq_getElem?_getD, hl]; rfl
  refine S99_ok _ _ _ _ _ ⟨ms, by rw [Addr.add_add]; exact k.at rfl, (c.rows.le mono_sl k.le).ix h0 har fun a hs => ⟨_, hs, ?_⟩⟩
  have hcond : (IntKind.wrap .u64 i ≥ IntKind.wrap .u64 ((rows[arr.toNat]).n : Nat)) ↔ ¬ (0 ≤ i ∧ i.toNat < l.length) := by
    have hI : I64 ((rows[arr.toNat]).n : Nat) := ⟨by omega, by omega⟩
    rw [wrap_u64 hi, wrap_u64 hI, hn]
    unfold I64 at hi
    split <;> split <;> omega
  refine cond_dec (fun g => ?_) (fun g => ?_)
  · have g := hcond.1 g
    refine c_trap k fun h1 k1 => ⟨(), rfl, Wk_self (hR1 ?_ h1 k1)⟩
    unfold memIn
    rw [hgd]
    by_cases e : 0 ≤ i
    · have : ¬ i.toNat < l.length := fun e' => g ⟨e, e'⟩
      simp [this]
    · simp [e]
  · have g : 0 ≤ i ∧ i.toNat < l.length := Classical.byContradiction fun e => g (hcond.2 e)
    obtain ⟨a0, ha0, h1, h2, _⟩ : Ix rows[arr.toNat] i 1 fun _ => True := OwnS.ints o |>.ix g.1 g.2 fun _ _ => trivial
    refine ⟨a0, ha0, h1, h2, Wk_self (hR2 ?_ g.1 g.2 _ a0 hrow ha0)⟩
    unfold memIn
    rw [hgd]
    simp [g.1, g.2]
end
end Go.Proofs.Ytapdnglpchejlaa

/- Contracts of package sim: enter, leave. -/
namespace Go.Proofs.Ytapdnglpchejlaa
open Go Go.VL

theorem c_Params0 {h0 h : V} {nm : ByteArray} {s : Sl} {bs : List BlockD} {R : Value → V → Prop} (hs : isBlocks h0 s bs) (l0 : Le h0 h) (hR : ∀ s', isInts h0 s' (FuncD.params ⟨nm, bs⟩) → R (sV s') h) : ACalls Try.prog 38 [.agg ⟨[.string nm, sV s]⟩] h R := by
  refine S38_ok _ _ _ _ (New_box fun r h1 hr l b => ?_)
  refine ⟨s, b.cell rfl, cond_eqi (fun h0 => ?_) (fun h0 => ?_)⟩
  · have : bs = [] := List.eq_nil_of_length_eq_zero (by have := hs.len; omega)
    subst this
    exact ⟨h, l, hR ⟨none, 0, 0⟩ (isSl_nil _ _ _)⟩
  · cases bs with
    | nil => exact absurd (by simp [hs.len]) h0
    | cons b0 bs =>
      exact ⟨s, b.cell rfl, hs.ixn (k := 0) (by simp) fun a ⟨p, i, w, h1', h2, h3, hc⟩ => ⟨p, cellq_le (l0.trans l) hc.1, h, l, hR p h1'⟩⟩
theorem setVs_snoc : ∀ {vs xs : List Int} {vals : Int → Int} {v x : Int}, vs.length = xs.length → setVs vals (vs ++ [v]) (xs ++ [x]) = setV (setVs vals vs xs) v x
  | [], [], _, _, _, _ => rfl
  | _ :: vs, _ :: xs, vals, v, x, h => by
    show setVs (setV vals _ _) (vs ++ [v]) (xs ++ [x]) = _
    exact setVs_snoc (by simpa using h)
  | [], _ :: _, _, _, _, h => by simp at h
  | _ :: _, [], _, _, _, h => by simp at h
theorem setVs_take {vs xs : List Int} {vals : Int → Int} {j : Nat} (h1 : j < vs.length) (h2 : j < xs.length) : setVs vals (vs.take (j + 1)) (xs.take (j + 1)) = setV (setVs vals (vs.take j) (xs.take j)) vs[j] xs[j] := by
  rw [List.take_succ_eq_append_getElem h1, List.take_succ_eq_append_getElem h2]
  exact setVs_snoc (by simp; omega)
theorem mapIs_put {hh : V} {q : Nat} {vals : Int → Int} {v x : Int} {K : V → Prop} (m : mapIs hh q vals) (hK : ∀ o', mapIs (hh.upd q o') q (setV vals v x) → kindOf o' = 0 → (∃ o, hh q = some o ∧ kindOf o = 0) → K (hh.upd q o')) : MUpd hh (some q) (.int .i64) (.int .i64 v) (.int .i64 x) K := by
  obtain ⟨o, m, h1, h2, h3⟩ := m
  refine MUpd_map (kd := .int .i64) (v := x) h1 h2 fun o' ho' => hK o' ⟨o', _, upd_self _ _ _, ho', fun w => ?_⟩ (kind_map ho') ⟨o, h1, kind_map h2⟩
  rw [mget_mset]
  show (if v = w then some x else mget m w).getD 0 = if w = v then x else vals w
  by_cases e : v = w
  · subst e; simp
  · rw [if_neg e, if_neg (fun e' : w = v => e e'.symm)]; exact h3 w
theorem fnAt_eq {p : ProgD} {i : Int} (h : i.toNat < p.funcs.length) : fnAt p i = p.funcs[i.toNat] := by unfold fnAt; rw [List.getD_eq_getElem?_getD, List.getElem?_eq_getElem h]; rfl

section
variable {hB hh h' : V} {p : ProgD} {r : Nat} {sa sf fs lk ms : Sl} {ys : List FrH} {rows : List Sl} {S : MS} {R : Value → V → Prop}
/- a frame more -/
theorem SimW.push {x : FrD} {y : FrH} {r51 : Nat} {K : Sl → V → Prop} (k : SimW hB hh p r sa sf fs lk ms ys rows S) (hq : QFr hh x y) (hn : hB y.q = none) (hnew : ∀ z ∈ ys, z.q ≠ y.q) (b : Box hh r51 (encFr y) 132) (hlen : S.fs.length < 2000)
    (hK : ∀ s' h', SimP hB h' r s' lk (ys ++ [y]) rows { S with fs := S.fs ++ [x] } → Box h' r (simV p sa sf fs lk ms S) 97 → K s' h') : App hh fs ⟨some ⟨r51, 0, none⟩, 1, 1⟩ 132 5 40 [iV 0, iV 0, iV 0, .map none, iV 0] K := by
  have hyl := k.ylen
  refine App_enc (enc := encFr) (x := y) encFr_len (by omega) k.le k.ofs b rfl rfl (by omega) (by omega) fun s' h2 l2 o2 n2 f2 d2 => ?_
  have kk : KeepK hh h2 134 := fun q o hq hk => by
    rw [f2 q (fun a ha e => by
      obtain ⟨_, arr, h⟩ := k.ofs.blk ha
      rw [← e, hq] at h; cases h; exact hk rfl) (by rw [hq]; simp)]
    exact hq
  refine hK s' h2 ⟨l2, k.nil, o2, by simp [hyl], fun i x' y' hx hy => ?_, fun i y' hy => ?_, ?_, own_keep k.olk kk (by decide), k.rlen, fun i s l hs hl => own_keep (k.orow i s l hs hl) kk (by decide), k.rnd⟩ (box_keep k.box kk (by decide))
  · rcases Nat.lt_or_ge i ys.length with g | g
    · rw [List.getElem?_append_left (by omega)] at hx hy
      exact (k.yq i x' y' hx hy).keep fun o ho ht => kk _ _ ho (by rw [ht]; decide)
    · rw [List.getElem?_append_right g] at hy
      rw [List.getElem?_append_right (by omega)] at hx
      have e : i = ys.length := by have := (List.getElem?_eq_some_iff.1 hy).1; simp at this; omega
      subst e
      simp [hyl] at hx hy
      subst hx hy
      exact hq.keep fun o ho ht => kk _ _ ho (by rw [ht]; decide)
  · rcases Nat.lt_or_ge i ys.length with g | g
    · rw [List.getElem?_append_left g] at hy; exact k.ynil i y' hy
    · rw [List.getElem?_append_right g] at hy
      have e : i = ys.length := by have := (List.getElem?_eq_some_iff.1 hy).1; simp at this; omega
      subst e
      simp at hy
      subst hy; exact hn
  · rw [List.map_append, List.nodup_append]
    refine ⟨k.ynd, by simp, fun a ha b hb e => ?_⟩
    obtain ⟨z, hz, rfl⟩ := List.mem_map.1 ha
    simp at hb
    exact hnew z hz (e.trans hb)
theorem SimW.yin (k : SimW hB hh p r sa sf fs lk ms ys rows S) {y : FrH} (hy : y ∈ ys) : ∃ o, hh y.q = some o := by
  obtain ⟨i, hi⟩ := List.mem_iff_getElem?.1 hy
  have hl : i < S.fs.length := by have := (List.getElem?_eq_some_iff.1 hi).1; rw [k.ylen] at this; exact this
  obtain ⟨_, _, _, _, o, m, h1, _⟩ := k.yq i _ y (List.getElem?_eq_getElem hl) hi
  exact ⟨o, h1⟩
theorem SimW.fn (k : SimW hB hh p r sa sf fs lk ms ys rows S) : fs.n = S.fs.length := by
  have := k.ofs.1; rw [flat_len encFr_len, k.ylen] at this; omega
theorem c_enter {fn dst : Int} {asl : Sl} {args : List Int} (k : SimW hB hh p r sa sf fs lk ms ys rows S) (c : SimC hB p sa sf ms rows) (hlen : S.fs.length ≤ 2000) (h0 : 0 ≤ fn) (hfn : fn.toNat < p.funcs.length) (has : isInts hB asl args) (hal : args.length = (fnAt p fn).params.length)
    (hR1 : enterS p S fn args dst = none → R (.bool false) hh)
    (hR2 : ∀ h' fs' ys' S', enterS p S fn args dst = some S' → SimW hB h' p r sa sf fs' lk ms ys' rows S' → R (.bool true) h') :
    ACalls Try.prog 36 [.pointer (some ⟨r, 0, none⟩), iV fn, sV asl, iV dst] hh R := by
  have hfl := k.fn
  refine S36_ok _ _ _ _ _ _ ⟨fs, k.at rfl, cond_dec (fun g => Wk_self (hR1 ?_)) (fun g => ?_)⟩
  · have g : (fs.n : Int) ≥ 2000 := g
    unfold enterS; rw [if_pos (by omega)]
  have g : ¬ (fs.n : Int) ≥ 2000 := g
  have hlt : S.fs.length < 2000 := by omega
  intro r19 hr19
  have l2 : Le hh (hh.upd r19 (.map #[] 0)) := le_upd hr19 _
  have m2 : (hh.upd r19 (.map #[] 0)) r19 = some (.map #[] 0) := upd_self _ _ _
  generalize hh.upd r19 (.map #[] 0) = h2 at *
  refine New_box fun r9 h3 hr9 l3 b9 => StL_box (h := h2) b9 rfl l3 hr9 fun h4 l4 b9' f4 => ?_
  have l04 := l2.trans l4
  have k4 := k.up l04
  refine ⟨sf, by rw [Addr.add_add]; exact k4.at rfl, c.funcs.ix h0 hfn fun a ⟨sb, hsb, hcc⟩ => ⟨(_, sb, ()), cellsAt_le k4.le hcc, ?_⟩⟩
  refine c_Params0 hsb k4.le fun x30 hx30 => ⟨x30, rfl, ?_⟩
  have hpar : FuncD.params ⟨(p.funcs[fn.toNat]).name, (p.funcs[fn.toNat]).blocks⟩ = (fnAt p fn).params := by rw [fnAt_eq hfn]
  have hx30 : isInts hB x30 (fnAt p fn).params := by rw [← hpar]; exact hx30
  generalize hps : (fnAt p fn).params = ps at *
  refine Lp_count ps.length (fun j st h6 => st = ((j : Int), ()) ∧ Le hh h6 ∧ Box h6 r9 [iV fn, iV 0, iV 0, .map (some r19), iV dst] 132 ∧ mapIs h6 r19 (setVs (fun _ => 0) (ps.take j) (args.take j)))
    ⟨rfl, l04, b9', ⟨_, [], l4 _ _ m2, MapRep.empty _, fun v => by rw [mget_nil]; rfl⟩⟩ ?_
  rintro j _ h6 K hj ⟨rfl, l6, b6, m6⟩ hK
  refine cond_dec (fun hlt => ?_) (fun hge => ?_)
  · have hj' : j < ps.length := by have := hx30.len; simp only at hlt; omega
    have hja : j < args.length := by omega
    refine (hx30.le mono_int (k.le.trans l6)).ixn hj' fun a1 ha1 => ⟨_, ha1, _, b6.cell rfl, (has.le mono_int (k.le.trans l6)).ixn hja fun a2 ha2 => ⟨_, ha2, ?_⟩⟩
    refine mapIs_put m6 fun o' hm' hk0 ⟨o, ho, hk⟩ => Wk_self (hK _ _ hj' ⟨by rw [wnat hj' hx30.bd], l6.upd hr19 o', ?_, ?_⟩)
    · unfold Box
      rw [upd_ne (fun e => by unfold Box at b6; rw [e, ho] at b6; cases b6; cases hk)]
      exact b6
    · rw [setVs_take hj' hja]; exact hm'
  · have : j = ps.length := by have := hx30.len; simp only at hge; omega
    subst this
    rw [List.take_of_length_le (Nat.le_refl _), List.take_of_length_le (by omega)] at m6
    have k6 := k.up l6
    refine ⟨fs, k6.at rfl, (_, _, _, _, _, ()), b6.cells, New_box fun r51 h9 hr51 l9 b51 => ?_⟩
    have k9 := k6.up l9
    have m9 : mapIs h9 r19 (setVs (fun _ => 0) ps args) := m6.keep fun o ho _ => l9 _ _ ho
    refine SimW.push (x := ⟨fn, 0, 0, setVs (fun _ => 0) ps args, dst⟩) (y := ⟨fn, 0, 0, r19, dst⟩) k9 ⟨rfl, rfl, rfl, rfl, m9⟩ (k.le.nil hr19) (fun z hz e => ?_) b51 hlt fun s52 h10 P10 b10 => ?_
    · obtain ⟨o, ho⟩ := k.yin hz
      rw [e] at ho
      have ho : hh r19 = some o := ho
      rw [hr19] at ho; cases ho
    · have henter : enterS p S fn args dst = some { S with fs := S.fs ++ [⟨fn, 0, 0, setVs (fun _ => 0) ps args, dst⟩], deep := if ((S.fs.length + 1 : Nat) : Int) > S.deep then ((S.fs.length + 1 : Nat) : Int) else S.deep } := by
        unfold enterS; rw [if_neg (by omega), hps]
      refine P10.st (i := 3) (v := sV s52) (p := p) (sa := sa) (sf := sf) (ms := ms) (fs := s52) (lk := lk) b10 (by simp [simV]) rfl fun h11 k11 f11 => ?_
      have hn52 := k11.fn
      simp only [List.length_append, List.length_cons, List.length_nil] at hn52
      refine ⟨S.deep, by rw [Addr.add_add]; exact k11.at rfl, s52, k11.at rfl, ?_⟩
      show StL h11 (Addr.add (Addr.add ⟨r, 0, none⟩ 4) 4) 0 [iV (if (s52.n : Int) > S.deep then (s52.n : Int) else S.deep)] _
      rw [Addr.add_add]
      refine k11.sc (i := 8) (S' := { S with fs := S.fs ++ [⟨fn, 0, 0, setVs (fun _ => 0) ps args, dst⟩], deep := if ((S.fs.length + 1 : Nat) : Int) > S.deep then ((S.fs.length + 1 : Nat) : Int) else S.deep }) (by omega) ?_ rfl rfl rfl fun h12 k12 _ => Wk_self (hR2 h12 s52 _ _ henter k12)
      rw [hn52]; rfl
/- the frame below -/
theorem backS_snoc : ∀ (l : List FrD) (f : FrD) (v x : Int), backS (l ++ [f]) v x = l ++ [{ f with vals := setV f.vals v x }]
  | [], _, _, _ => rfl
  | [_], _, _, _ => rfl
  | a :: b :: l, f, v, x => by
    show a :: backS (b :: l ++ [f]) v x = _
    rw [backS_snoc (b :: l) f v x]; rfl
theorem Slc_init {α : Type} {enc : α → List Value} {sz : Nat} {h0 h : V} {s : Sl} {T : TypeId} {l : List α} {x : α} {i : Int} {K : Sl → Prop} (he : ∀ x, (enc x).length = sz) (hz : 0 < sz) (o : OwnS h0 h s T sz ((l ++ [x]).flatMap enc)) (hi : i = (l.length : Nat)) (hk : ∀ s', OwnS h0 h s' T sz (l.flatMap enc) → K s') : Slc s none (some i) none sz K := by
  subst hi
  have hn : s.n = l.length + 1 := by have := o.1; rw [flat_len he] at this; simp at this; exact Nat.eq_of_mul_eq_mul_right hz this.symm |>.symm ▸ rfl
  obtain ⟨h1, h2, h3, h4⟩ := o
  refine ⟨by simp, by simp, by simp; omega, by simp, ?_⟩
  simp only [Option.getD_some, Option.getD_none, Int.toNat_natCast, Int.toNat_zero, Nat.sub_zero]
  refine hk _ ⟨by rw [flat_len he], by show l.length ≤ s.c; omega, by show l.length ≤ _; omega, ?_⟩
  rcases h4 with ⟨ha, hc⟩ | ⟨b, off, arr, ha, hr0, hr, hsz, ht⟩
  · omega
  · refine .inr ⟨b, off, arr, ?_, hr0, hr, hsz, ?_⟩
    · show (if s.c = 0 then s.a else s.a.map (·.add (0 * sz))) = _
      split
      · exact ha
      · rw [ha, Nat.zero_mul]; simp [Addr.add_z]
    · show (arr.toList.drop off).take (l.length * sz) = _
      have h5 := congrArg (List.take (l.length * sz)) ht
      rw [List.take_take, Nat.min_eq_left (by rw [hn, Nat.add_mul]; omega), List.flatMap_append] at h5
      rw [h5, ← flat_len he l, List.take_left]
end
end Go.Proofs.Ytapdnglpchejlaa

/- What a right program's instructions and ends are like. -/
namespace Go.Proofs.Ytapdnglpchejlaa
open Go Go.VL

def FuncD.at (p : ProgD) (f : Nat) : FuncD := p.funcs.getD f ⟨⟨#[]⟩, []⟩
theorem right_arr {p : ProgD} {i : InsD} (h : rightD p i = true) (ho : i.op = 3 ∨ i.op = 4 ∨ i.op = 5 ∨ i.op = 6) : 0 ≤ i.arr ∧ i.arr.toNat < p.arrays.length := by
  unfold rightD at h
  split at h
  · cases h
  split at h
  · cases h
  split at h
  · cases h
  split at h
  · cases h
  split at h
  · omega
  split at h
  · rw [Bool.and_eq_true_iff] at h
    refine ⟨by simpa using h.1, ?_⟩
    have := h.2
    split at this
    · rename_i a ha; exact (List.getElem?_eq_some_iff.1 ha).1
    · cases this
  split at h
  · rw [Bool.and_eq_true_iff] at h
    refine ⟨by simpa using h.1, ?_⟩
    have := h.2
    split at this
    · rename_i a ha; exact (List.getElem?_eq_some_iff.1 ha).1
    · cases this
  · omega
theorem right_two {p : ProgD} {i : InsD} (h : rightD p i = true) (ho : i.op = 6) : i.args.length = 2 := by
  unfold rightD at h
  split at h
  · cases h
  split at h
  · cases h
  rename_i hn
  have e : (shapeD i.op).1 = 2 := by rw [ho]; rfl
  rw [e] at hn
  apply Classical.byContradiction
  intro x
  exact hn ⟨by omega, by omega⟩
theorem right_call {p : ProgD} {i : InsD} (h : rightD p i = true) (ho : i.op = 7) : 0 ≤ i.fn ∧ i.fn.toNat < p.funcs.length ∧ i.args.length = (FuncD.at p i.fn.toNat).params.length := by
  unfold rightD at h
  split at h
  · cases h
  split at h
  · cases h
  split at h
  · cases h
  split at h
  · cases h
  rw [if_neg (by omega), if_neg (by omega), if_neg (by omega)] at h
  rw [Bool.and_eq_true_iff] at h
  refine ⟨by simpa using h.1, ?_⟩
  have h2 := h.2
  split at h2
  · rename_i f hf
    have hlt := (List.getElem?_eq_some_iff.1 hf).1
    refine ⟨hlt, ?_⟩
    have e : FuncD.at p i.fn.toNat = f := by unfold FuncD.at; rw [List.getD_eq_getElem?_getD, hf]; rfl
    rw [e]
    unfold FuncD.params
    split at h2
    · rename_i b bs hb
      rw [hb]; simpa using h2
    · cases h2
  · cases h2
theorem FuncD.at_eq {p : ProgD} {f : Nat} (h : f < p.funcs.length) : FuncD.at p f = p.funcs[f] := by unfold FuncD.at; rw [List.getD_eq_getElem?_getD, List.getElem?_eq_getElem h]; rfl
theorem getD_lt {α : Type} {l : List α} {i : Nat} {d : α} (h : i < l.length) : l.getD i d = l[i] := by rw [List.getD_eq_getElem?_getD, List.getElem?_eq_getElem h]; rfl
theorem right_len {p : ProgD} {i : InsD} (h : rightD p i = true) (h0 : 0 ≤ (shapeD i.op).1) : (i.args.length : Int) = (shapeD i.op).1 := by
  unfold rightD at h
  by_cases c1 : (shapeD i.op).1 = -2
  · rw [if_pos c1] at h; cases h
  rw [if_neg c1] at h
  by_cases c2 : 0 ≤ (shapeD i.op).1 ∧ (i.args.length : Int) ≠ (shapeD i.op).1
  · rw [if_pos c2] at h; cases h
  exact Classical.byContradiction fun x => c2 ⟨h0, x⟩
theorem endsD_parts {bs : List BlockD} {e : EndD} (h : endsD bs e = true) : (e.ways.length : Int) = (waysN e.kind).getD 0 ∧ waysN e.kind ≠ none := by
  unfold endsD at h
  by_cases c1 : waysN e.kind = none
  · rw [if_pos c1] at h; cases h
  rw [if_neg c1] at h
  by_cases c2 : (e.ways.length : Int) ≠ (waysN e.kind).getD 0
  · rw [if_pos c2] at h; cases h
  exact ⟨Classical.byContradiction fun x => c2 x, c1⟩
theorem ends_kind {bs : List BlockD} {e : EndD} (h : endsD bs e = true) : (e.kind = 1 ∧ e.ways.length = 1) ∨ (e.kind = 2 ∧ e.ways.length = 2) ∨ (e.kind = 3 ∧ e.ways = []) ∨ (e.kind = 4 ∧ e.ways = []) := by
  obtain ⟨h1, h2⟩ := endsD_parts h
  have hw : waysN e.kind = if e.kind = 1 then some 1 else if e.kind = 2 then some 2 else if e.kind = 3 then some 0 else if e.kind = 4 then some 0 else none := by
    unfold waysN
    simp only [mget_cons, mget_nil, eq_comm]
  rw [hw] at h1 h2
  by_cases c1 : e.kind = 1
  · left; rw [if_pos c1] at h1; simp at h1; omega
  rw [if_neg c1] at h1 h2
  by_cases c2 : e.kind = 2
  · right; left; rw [if_pos c2] at h1; simp at h1; omega
  rw [if_neg c2] at h1 h2
  by_cases c3 : e.kind = 3
  · right; right; left; rw [if_pos c3] at h1; simp at h1; exact ⟨c3, h1⟩
  rw [if_neg c3] at h1 h2
  by_cases c4 : e.kind = 4
  · right; right; right; rw [if_pos c4] at h1; simp at h1; exact ⟨c4, h1⟩
  rw [if_neg c4] at h2
  exact absurd rfl h2
theorem wayOk_args {bs : List BlockD} {w : EdgeD} (h : wayOk bs w = true) : w.args.length = (bs.getD w.to.toNat noB).params.length := by
  have ht := wayOk_to h
  unfold wayOk at h
  rw [Bool.and_eq_true_iff] at h
  have h2 := h.2
  rw [List.getElem?_eq_getElem ht.2] at h2
  rw [List.getD_eq_getElem?_getD, List.getElem?_eq_getElem ht.2]
  simpa using h2
/- frames and machines that are as they may be -/
structure FrOk (p : ProgD) (f : FrD) : Prop where
  fn0 : 0 ≤ f.fn
  fn1 : f.fn.toNat < p.funcs.length
  b0 : 0 ≤ f.block
  b1 : f.block.toNat < (fnAt p f.fn).blocks.length
  p0 : 0 ≤ f.pos
  p1 : f.pos ≤ ((blAt p f).ins.length : Nat)
  vals : ∀ v, I64 (f.vals v)
structure MsOk (p : ProgD) (S : MS) : Prop where
  fr : ∀ f ∈ S.fs, FrOk p f
  mem : S.mem.length = p.arrays.length
  rows : ∀ l ∈ S.mem, l ≠ [] ∧ ∀ x ∈ l, I64 x
  len : S.fs.length ≤ 2000
def NumsOk (p : ProgD) : Prop := ∀ f ∈ p.funcs, ∀ b ∈ f.blocks, ∀ i ∈ b.ins, I64 i.num
theorem set_last {α : Type} (l : List α) (x y : α) : (l ++ [x]).set l.length y = l ++ [y] := by
  rw [List.set_append_right _ _ (Nat.le_refl _)]; simp
theorem get_last {α : Type} (l : List α) (x : α) : (l ++ [x])[l.length]? = some x := by simp
theorem snoc_of {α : Type} {l : List α} {n : Nat} (h : l.length = n + 1) : ∃ l' x, l = l' ++ [x] ∧ l'.length = n := by
  rcases List.eq_nil_or_concat l with e | ⟨l', x, e⟩
  · subst e; simp at h
  · subst e; exact ⟨l', x, by simp, by simp at h; omega⟩
end Go.Proofs.Ytapdnglpchejlaa

/- Contracts of package sim: leave, do. -/
namespace Go.Proofs.Ytapdnglpchejlaa
open Go Go.VL

section
variable {hB hh h' : V} {p : ProgD} {r : Nat} {sa sf fs lk ms : Sl} {ys : List FrH} {rows : List Sl} {S : MS} {R : Value → V → Prop}
theorem wlen {n : Nat} (h : n ≤ 2000) (h1 : 1 ≤ n) : IntKind.wrap .i64 ((n : Int) - 1) = ((n - 1 : Nat) : Int) := by rw [w64 (by omega) (by omega)]; omega
theorem c_leave {rest : List FrD} {f : FrD} {x : Int} (k : SimW hB hh p r sa sf fs lk ms ys rows S) (hS : S.fs = rest ++ [f]) (hlen : S.fs.length ≤ 2000)
    (hR : ∀ h' fs' ys', SimW hB h' p r sa sf fs' lk ms ys' rows (leaveS S rest f x) → R (.tuple ⟨[]⟩) h') : ACalls Try.prog 95 [.pointer (some ⟨r, 0, none⟩), iV x] hh R := by
  have hfl := k.fn
  have hl : S.fs.length = rest.length + 1 := by rw [hS]; simp
  obtain ⟨yr, y, rfl, hyr⟩ := snoc_of (k.ylen.trans hl)
  have hfn1 : fs.n = rest.length + 1 := by omega
  have hw : IntKind.wrap .i64 (((fs.n : Nat) : Int) - 1) = ((rest.length : Nat) : Int) := by rw [wlen (by omega) (by omega)]; congr 1; omega
  have hx : S.fs[rest.length]? = some f := by rw [hS, get_last]
  have hy : (yr ++ [y])[rest.length]? = some y := by rw [← hyr, get_last]
  refine S95_ok _ _ _ _ ⟨fs, k.at rfl, fs, k.at rfl, ?_⟩
  refine k.frIx (n := rest.length) (by simp; omega) hw fun fa hfa => ?_
  obtain ⟨q1, q2, q3, q4, q5⟩ := k.yq _ _ _ hx hy
  have hd : cellq hh (Addr.add fa 4) = some (iV y.dst) := by
    have := cellsAt_get (k.frAt hy hfa) 4 (iV y.dst) rfl
    rwa [Nat.zero_add] at this
  refine ⟨_, hd, fs, k.at rfl, fs, k.at rfl, ?_⟩
  refine Slc_init (x := y) encFr_len (by omega) k.ofs (by rw [hyr]; exact hw) fun s29 o29 => ?_
  have hR' : ∀ (i : Nat) z, yr[i]? = some z → i < rest.length ∧ (yr ++ [y])[i]? = some z := fun i z hz => by
    have := (List.getElem?_eq_some_iff.1 hz).1
    exact ⟨by omega, by rw [List.getElem?_append_left this]; exact hz⟩
  have P : SimP hB hh r s29 lk yr rows { S with fs := rest } := ⟨k.le, k.nil, o29, hyr, fun i x' y' hx' hy' => by
      have := hR' i y' hy'
      exact k.yq i x' y' (by rw [hS, List.getElem?_append_left this.1]; exact hx') this.2, fun i y' hy' => k.ynil i y' (hR' i y' hy').2, by
      have := k.ynd
      rw [List.map_append, List.nodup_append] at this
      exact this.1, k.olk, k.rlen, k.orow, k.rnd⟩
  refine P.st (i := 3) (p := p) (sa := sa) (sf := sf) (ms := ms) k.box (by simp [simV]) rfl fun h1 k1 f1 => ⟨s29, k1.at rfl, ?_⟩
  have hn29 : s29.n = rest.length := k1.fn
  refine cond_eqi (fun e => ?_) (fun e => ?_)
  · have e : ((s29.n : Nat) : Int) = 0 := e
    have hr0 : rest = [] := List.eq_nil_of_length_eq_zero (by omega)
    subst hr0
    show StL h1 (Addr.add (Addr.add ⟨r, 0, none⟩ 4) 0) 0 [iV x] _
    rw [Addr.add_add]
    refine k1.sc (i := 4) (S' := { S with fs := [], val := x }) (by omega) rfl rfl rfl rfl fun h2 k2 _ => ?_
    refine k2.sc (i := 10) (S' := { S with fs := [], val := x, fin := true }) (by omega) rfl rfl rfl rfl fun h3 k3 _ => Wk_self (hR h3 s29 yr ?_)
    have : leaveS S [] f x = { S with fs := [], val := x, fin := true } := by unfold leaveS; rw [if_pos rfl]
    rw [this]; exact k3
  · have e : ¬ ((s29.n : Nat) : Int) = 0 := e
    obtain ⟨rr, g, hrr, hrl⟩ := snoc_of (show rest.length = (rest.length - 1) + 1 by omega)
    obtain ⟨yr', z, hyr', hyl'⟩ := snoc_of (show yr.length = (rest.length - 1) + 1 by omega)
    have hw2 : IntKind.wrap .i64 (((s29.n : Nat) : Int) - 1) = ((rest.length - 1 : Nat) : Int) := by rw [hn29]; exact wlen (by omega) (by omega)
    refine ⟨s29, k1.at rfl, s29, k1.at rfl, k1.frIx (n := rest.length - 1) (by omega) hw2 fun fb hfb => ?_⟩
    have hx2 : ({ S with fs := rest } : MS).fs[rest.length - 1]? = some g := by
      show rest[rest.length - 1]? = _
      rw [← hrl, hrr]
      exact get_last rr g
    have hy2 : yr[rest.length - 1]? = some z := by
      rw [← hyl', hyr']
      exact get_last yr' z
    have hq : cellq h1 (Addr.add fb 3) = some (.map (some z.q)) := by
      have := cellsAt_get (k1.frAt hy2 hfb) 3 (.map (some z.q)) rfl
      rwa [Nat.zero_add] at this
    refine ⟨some z.q, hq, k1.setv hx2 hy2 fun h5 k5 => Wk_self (hR h5 s29 yr ?_)⟩
    have : leaveS S rest f x = { S with fs := rest.set (rest.length - 1) { g with vals := setV g.vals y.dst x } } := by
      unfold leaveS
      rw [if_neg (fun e' => by rw [e'] at hrr; simp at hrr), q4]
      congr 1
      rw [hrr, backS_snoc]
      have : (rr ++ [g]).length - 1 = rr.length := by simp
      rw [this, set_last]
    rw [this]; exact k5

theorem FrOk.args {f : FrD} (ok : FrOk p f) (l : List Int) : ∀ x ∈ l.map f.vals, I64 x := fun x hx => by obtain ⟨v, _, rfl⟩ := List.mem_map.1 hx; exact ok.vals v
set_option maxRecDepth 100000 in
theorem c_do {rest : List FrD} {f : FrD} {i : InsD} {q : Sl} {fa : Addr} (k : SimW hB hh p r sa sf fs lk ms ys rows S) (c : SimC hB p sa sf ms rows) (hS : S.fs = rest ++ [f]) (hfa : topA fs rest.length fa) (hr : rightD p i = true)
    (okm : MsOk p S) (hq : isInts hB q i.args) (hargs : i.args.length ≤ 1048576) (hb : (S.leaks.length + 1) * 24 ≤ 140737488355328)
    (hR : ∀ h' fs' lk' ys' b, Le hB h' → (b = true → ∃ S', doS p S rest f i = some S' ∧ SimW hB h' p r sa sf fs' lk' ms ys' rows S') → (b = false → doS p S rest f i = none) → R (.bool b) h') :
    ACalls Try.prog 64 [.pointer (some ⟨r, 0, none⟩), .pointer (some fa), .agg ⟨insV i q⟩] hh R := by
  have hl : S.fs.length = rest.length + 1 := by rw [hS]; simp
  have okf := okm.fr f (by rw [hS]; simp)
  have hlen := okm.len
  have hx : S.fs[rest.length]? = some f := by rw [hS, get_last]
  obtain ⟨y, hy⟩ : ∃ y, ys[rest.length]? = some y := ⟨_, List.getElem?_eq_getElem (by rw [k.ylen]; omega)⟩
  refine S64_ok _ _ _ _ _ _ _ _ _ _ _ (New_box fun r5 h1 hr5 l1 b5 => ⟨q, b5.cell rfl, ?_⟩)
  obtain ⟨hC, lC, k1, e5⟩ := k.box1 l1 hr5 b5
  have b5C : Box hC r5 (insV i q) 51 := e5
  refine c_values (n := rest.length) k1 hx hy hfa (hq.le mono_int lC) hargs fun x15 h2 l2 o15 => ⟨x15, rfl, ?_⟩
  obtain ⟨hD, lD, k2, oD⟩ := k1.addS l2 o15
  have i15 : isInts hD x15 (i.args.map f.vals) := oD.ints
  have b5D := b5C.le lD
  have cD := (c.le lC).le lD
  have lBD := lC.trans lD
  have hfs : ∀ v x, (S.fs.set rest.length { f with vals := setV f.vals v x }) = rest ++ [{ f with vals := setV f.vals v x }] := fun v x => by rw [hS, set_last]
  have hput : ∀ {S1 : MS} v x, S1.fs = S.fs → ({ S1 with fs := S1.fs.set rest.length { f with vals := setV f.vals v x } } : MS) = putS S1 rest f v x := fun {S1} v x e => by unfold putS; rw [e, hfs]
  have hgt : ∀ {S1 : MS} {hh' : V} {hE : V} {lk' : Sl} {v x : Int} {K : V → Prop}, SimW hE hh' p r sa sf fs lk' ms ys rows S1 → S1.fs = S.fs → (∀ h', SimW hE h' p r sa sf fs lk' ms ys rows (putS S1 rest f v x) → K h') →
      Ld hh' (Addr.add fa 3) .mp fun q' => MUpd hh' q' (.int .i64) (.int .i64 v) (.int .i64 x) K := fun {S1 hh' hE lk' v x K} k' e hK => by
    have := cellsAt_get (k'.frAt hy hfa) 3 (.map (some y.q)) rfl
    rw [Nat.zero_add] at this
    refine ⟨some y.q, this, k'.setv (by rw [e]; exact hx) hy fun h'' k'' => hK h'' ?_⟩
    rw [← hput v x e]; exact k''
  have done : ∀ {h'' : V} {hE : V} {fs' lk' : Sl} {ys' : List FrH} {S' : MS}, Le hB hE → SimW hE h'' p r sa sf fs' lk' ms ys' rows S' → doS p S rest f i = some S' → Wk h'' fun h' => R (.bool true) h' := fun {h'' hE fs' lk' ys' S'} l k' e => Wk_self (hR h'' fs' lk' ys' true (l.trans k'.le) (fun _ => ⟨S', e, k'.less l⟩) fun e => by cases e)
  have b5h := b5D.le k2.le
  have i15h := i15.le mono_int k2.le
  have hvals := okf.args i.args
  refine ⟨_, b5h.cell rfl, ?_⟩
  refine cond_eqi (fun (e : i.op = 1) => ?_) (fun (e : ¬ i.op = 1) => ?_)
  · have hg := hgt (v := i.dst) (x := i.num) (K := fun h' => Wk h' fun h' => R (.bool true) h') k2 rfl fun h3 k3 => done lBD k3 (by unfold doS; rw [if_pos e])
    obtain ⟨q', hq1, hq2⟩ := hg
    exact ⟨q', hq1, _, b5h.cell rfl, _, b5h.cell rfl, hq2⟩
  refine cond_eqi (fun (e2 : i.op = 2) => ?_) (fun (e2 : ¬ i.op = 2) => ?_)
  · have hal : i.args.length = 2 := by
      have := right_len hr (by rw [e2]; decide)
      rw [e2] at this
      have h2 : (shapeD 2).1 = 2 := by decide
      omega
    obtain ⟨x, z, hxz⟩ : ∃ x z, i.args = [x, z] := by
      match hm : i.args, hal with
      | [x, z], _ => exact ⟨x, z, rfl⟩
    have ha : i.args.map f.vals = [f.vals x, f.vals z] := by rw [hxz]; rfl
    rw [ha] at i15
    have at0 : ∀ {hh' : V} {K : Int → Prop}, Le hD hh' → K (f.vals x) → Ix x15 0 1 fun a => Ld hh' a (.int .i64) K := fun {hh' K} l hK => (i15.le mono_int l).ix (i := 0) (by omega) (by simp) fun a ha' => ⟨_, ha', hK⟩
    have at1 : ∀ {hh' : V} {K : Int → Prop}, Le hD hh' → K (f.vals z) → Ix x15 1 1 fun a => Ld hh' a (.int .i64) K := fun {hh' K} l hK => (i15.le mono_int l).ix (i := 1) (by omega) (by simp) fun a ha' => ⟨_, ha', hK⟩
    let S1 : MS := if i.bin = 4 ∨ i.bin = 5 then leakS S 3 (f.vals x) (f.vals z) else S
    have hS1 : S1.fs = S.fs := by show (if _ then _ else _ : MS).fs = _; split <;> rfl
    have hdo : doS p S rest f i = some (if (doW i.bin (f.vals x) (f.vals z)).2 = true then putS S1 rest f i.dst (doW i.bin (f.vals x) (f.vals z)).1 else trapS (putS S1 rest f i.dst (doW i.bin (f.vals x) (f.vals z)).1) 2) := by
      unfold doS
      rw [if_neg e, if_pos e2, ha]
      rfl
    refine Cut_i (fun _ h5 => ∃ lk', SimW hD h5 p r sa sf fs lk' ms ys rows S1) (fun J hJ => ?_) ?_
    · refine ⟨_, b5h.cell rfl, c_Divides ⟨_, rfl, cond_dec (fun g => ?_) (fun g => Wk_self (hJ _ _ ⟨lk, ?_⟩))⟩⟩
      · have at0' := at0 (K := fun (x36 : Int) => Ix x15 1 1 fun a38 => Ld h2 a38 (.int .i64) fun (x39 : Int) => CallK Try.prog 97 [.pointer (some ⟨r, 0, none⟩), iV 3, iV x36, iV x39] h2 (.tup []) fun (_ : Unit) h12 => Wk h12 fun h13 => J () h13) k2.le
          (at1 k2.le (c_leak k2 hb fun h12 lk' k12 => ⟨(), rfl, Wk_self (hJ _ _ ⟨lk', by show SimW _ _ _ _ _ _ _ _ _ _ _ (if _ then _ else _); rw [if_pos g]; exact k12⟩)⟩))
        exact at0'
      · show SimW _ _ _ _ _ _ _ _ _ _ _ (if _ then _ else _)
        rw [if_neg g]; exact k2
    · rintro _ h5 ⟨lk', k5⟩
      have b5k := b5D.le k5.le
      refine ⟨_, b5k.cell rfl, at0 k5.le (at1 k5.le (c_Do ⟨(_, _, ()), rfl, ?_⟩))⟩
      have hg := hgt (v := i.dst) (x := (doW i.bin (f.vals x) (f.vals z)).1) (K := fun h7 => cond (!(doW i.bin (f.vals x) (f.vals z)).2) (CallK Try.prog 96 [.pointer (some ⟨r, 0, none⟩), iV 2] h7 (.tup []) fun (_ : Unit) h8 => Wk h8 fun h9 => R (.bool true) h9) (Wk h7 fun h10 => R (.bool true) h10)) k5 hS1 fun h7 k7 => by
        refine cond_not (fun g => ?_) (fun g => ?_)
        · refine c_trap k7 fun h8 k8 => ⟨(), rfl, done lBD k8 ?_⟩
          rw [hdo, if_neg (by rw [g]; simp)]
        · refine done lBD k7 ?_
          rw [hdo, if_pos g]
      obtain ⟨q', hq1, hq2⟩ := hg
      exact ⟨q', hq1, _, b5k.cell rfl, hq2⟩
  refine cond_eqi (fun (e3 : i.op = 3) => ?_) (fun (e3 : ¬ i.op = 3) => ?_)
  · obtain ⟨ha0, ha1⟩ := right_arr hr (.inl e3)
    have hml : i.arr.toNat < S.mem.length := by rw [okm.mem]; exact ha1
    have har : i.arr.toNat < rows.length := by rw [k2.rlen]; exact hml
    have hrow := k2.orow _ _ _ (List.getElem?_eq_getElem har) (List.getElem?_eq_getElem hml)
    obtain ⟨hne, _⟩ := okm.rows _ (List.getElem_mem hml)
    have hpos : 0 < (S.mem[i.arr.toNat]).length := List.length_pos_iff.2 hne
    have hm : memAt S.mem i.arr 0 = (S.mem[i.arr.toNat])[0] := by
      unfold memAt
      rw [List.getD_eq_getElem?_getD (l := S.mem), List.getElem?_eq_getElem hml, List.getD_eq_getElem?_getD]
      show ((S.mem[i.arr.toNat])[0]?).getD 0 = _
      rw [List.getElem?_eq_getElem hpos]; rfl
    have hg := hgt (v := i.dst) (x := (S.mem[i.arr.toNat])[0]) (K := fun h' => Wk h' fun h' => R (.bool true) h') k2 rfl fun h3 k3 => done lBD k3 (by unfold doS; rw [if_neg e, if_neg e2, if_pos e3, hm])
    obtain ⟨q', hq1, hq2⟩ := hg
    refine ⟨q', hq1, _, b5h.cell rfl, ms, by rw [Addr.add_add]; exact k2.at rfl, _, b5h.cell rfl, (cD.rows.le mono_sl k2.le).ix ha0 har fun a hs => ⟨_, hs, ?_⟩⟩
    exact (OwnS.ints hrow).ix (i := 0) (by omega) hpos fun a ha' => ⟨_, ha', hq2⟩
  refine cond_eqi (fun (e4 : i.op = 4) => ?_) (fun (e4 : ¬ i.op = 4) => ?_)
  · obtain ⟨ha0, ha1⟩ := right_arr hr (.inr (.inl e4))
    have hml : i.arr.toNat < S.mem.length := by rw [okm.mem]; exact ha1
    have har : i.arr.toNat < rows.length := by rw [k2.rlen]; exact hml
    obtain ⟨hne, _⟩ := okm.rows _ (List.getElem_mem hml)
    have hpos : 0 < (S.mem[i.arr.toNat]).length := List.length_pos_iff.2 hne
    have hal : i.args.length = 1 := by
      have := right_len hr (by rw [e4]; decide)
      rw [e4] at this
      have h2 : (shapeD 4).1 = 1 := by decide
      omega
    have h0a : 0 < (i.args.map f.vals).length := by simp; omega
    refine ⟨ms, by rw [Addr.add_add]; exact k2.at rfl, _, b5h.cell rfl, (cD.rows.le mono_sl k2.le).ix ha0 har fun a hs => ⟨_, hs, ?_⟩⟩
    refine i15h.ix (i := 0) (by omega) h0a fun a ha' => ⟨_, ha', ?_⟩
    refine k2.setm (List.getElem?_eq_getElem har) (List.getElem?_eq_getElem hml) (by omega) hpos fun h3 k3 => done lBD k3 ?_
    unfold doS
    rw [if_neg e, if_neg e2, if_neg e3, if_pos e4]
    unfold memSet
    rw [List.getD_eq_getElem?_getD (l := S.mem), List.getElem?_eq_getElem hml, List.getD_eq_getElem?_getD (l := i.args.map f.vals), List.getElem?_eq_getElem h0a]
    rfl
  have access : ∀ {x : Int} {op : Int}, i.op = op → (op = 5 ∨ op = 6) → 0 ≤ i.arr ∧ i.arr.toNat < S.mem.length := fun {x op} h5 h56 => by
    obtain ⟨ha0, ha1⟩ := right_arr hr (.inr (.inr (h56.imp (fun g => h5.trans g) (fun g => h5.trans g))))
    exact ⟨ha0, by rw [okm.mem]; exact ha1⟩
  refine cond_eqi (fun (e5 : i.op = 5) => ?_) (fun (e5 : ¬ i.op = 5) => ?_)
  · obtain ⟨ha0, hml⟩ := access (x := 0) e5 (.inl rfl)
    have har : i.arr.toNat < rows.length := by rw [k2.rlen]; exact hml
    have hal : i.args.length = 1 := by
      have := right_len hr (by rw [e5]; decide)
      rw [e5] at this
      have h2 : (shapeD 5).1 = 1 := by decide
      omega
    have h0a : 0 < (i.args.map f.vals).length := by simp; omega
    have hg0 : (i.args.map f.vals).getD 0 0 = (i.args.map f.vals)[0] := by rw [List.getD_eq_getElem?_getD, List.getElem?_eq_getElem h0a]; rfl
    have hI : I64 (i.args.map f.vals)[0] := hvals _ (List.getElem_mem h0a)
    generalize hv0 : (i.args.map f.vals)[0] = v0 at *
    have hdo : doS p S rest f i = some (if memIn S.mem i.arr v0 = true then putS (leakS S 2 v0 0) rest f i.dst (memAt S.mem i.arr v0) else trapS (leakS S 2 v0 0) 4) := by
      unfold doS
      rw [if_neg e, if_neg e2, if_neg e3, if_neg e4, if_pos e5, hg0]
    refine i15h.ix (i := 0) (by omega) h0a fun a ha' => ⟨v0, by rw [← hv0]; exact ha', ?_⟩
    refine c_leak k2 hb fun h19 lk' k19 => ⟨(), rfl, _, (b5D.le k19.le).cell rfl, (i15.le mono_int k19.le).ix (i := 0) (by omega) h0a fun a2 ha2 => ⟨v0, by rw [← hv0]; exact ha2, ?_⟩⟩
    refine c_word k19 cD ha0 (List.getElem?_eq_getElem (show i.arr.toNat < (leakS S 2 v0 0).mem.length from hml)) hI (fun hm h20 k20 => ⟨none, rfl, ?_⟩) (fun hm hp0 hlt s a0 hs ha0' => ⟨some (a0.add (v0.toNat * 1)), rfl, ?_⟩)
    · refine cond_not (fun g => by cases g) (fun _ => done lBD k20 ?_)
      have hm : memIn S.mem i.arr v0 = false := hm
      rw [hdo, if_neg (by rw [hm]; simp)]
    · have hm : memIn S.mem i.arr v0 = true := hm
      refine cond_not (fun _ => ?_) (fun g => by cases g)
      have hlt : v0.toNat < (S.mem[i.arr.toNat]).length := hlt
      have hrow := k19.orow _ _ _ hs (List.getElem?_eq_getElem (show i.arr.toNat < (leakS S 2 v0 0).mem.length from hml))
      obtain ⟨a1, ha1, hc1⟩ := hrow.cell (j := v0.toNat) (v := iV (S.mem[i.arr.toNat])[v0.toNat]) (by
        show ((S.mem[i.arr.toNat]).map (Value.int .i64))[v0.toNat]? = _
        rw [List.getElem?_map, List.getElem?_eq_getElem hlt]; rfl)
      rw [ha0'] at ha1
      cases ha1
      have hmv : memAt S.mem i.arr v0 = (S.mem[i.arr.toNat])[v0.toNat] := by
        unfold memAt
        rw [List.getD_eq_getElem?_getD (l := S.mem), List.getElem?_eq_getElem hml, List.getD_eq_getElem?_getD]
        show ((S.mem[i.arr.toNat])[v0.toNat]?).getD 0 = _
        rw [List.getElem?_eq_getElem hlt]; rfl
      have hg := hgt (v := i.dst) (x := (S.mem[i.arr.toNat])[v0.toNat]) (K := fun h' => Wk h' fun h' => R (.bool true) h') k19 rfl fun h3 k3 => done lBD k3 (by rw [hdo, if_pos hm, hmv])
      obtain ⟨q', hq1, hq2⟩ := hg
      exact ⟨q', hq1, _, (b5D.le k19.le).cell rfl, _, by rw [Nat.mul_one]; exact hc1, hq2⟩
  refine cond_eqi (fun (e6 : i.op = 6) => ?_) (fun (e6 : ¬ i.op = 6) => ?_)
  · obtain ⟨ha0, hml⟩ := access (x := 0) e6 (.inr rfl)
    have har : i.arr.toNat < rows.length := by rw [k2.rlen]; exact hml
    have hal : i.args.length = 2 := right_two hr e6
    have h0a : 0 < (i.args.map f.vals).length := by simp; omega
    have h1a : 1 < (i.args.map f.vals).length := by simp; omega
    have hg0 : (i.args.map f.vals).getD 0 0 = (i.args.map f.vals)[0] := by rw [List.getD_eq_getElem?_getD, List.getElem?_eq_getElem h0a]; rfl
    have hg1 : (i.args.map f.vals).getD 1 0 = (i.args.map f.vals)[1] := by rw [List.getD_eq_getElem?_getD, List.getElem?_eq_getElem h1a]; rfl
    have hI : I64 (i.args.map f.vals)[0] := hvals _ (List.getElem_mem h0a)
    generalize hv0 : (i.args.map f.vals)[0] = v0 at *
    generalize hv1 : (i.args.map f.vals)[1] = v1 at *
    have hdo : doS p S rest f i = some (if memIn S.mem i.arr v0 = true then { leakS S 2 v0 0 with mem := memSet S.mem i.arr v0 v1 } else trapS (leakS S 2 v0 0) 4) := by
      unfold doS
      rw [if_neg e, if_neg e2, if_neg e3, if_neg e4, if_neg e5, if_pos e6, hg0, hg1]
    refine i15h.ix (i := 0) (by omega) h0a fun a ha' => ⟨v0, by rw [← hv0]; exact ha', ?_⟩
    refine c_leak k2 hb fun h19 lk' k19 => ⟨(), rfl, _, (b5D.le k19.le).cell rfl, (i15.le mono_int k19.le).ix (i := 0) (by omega) h0a fun a2 ha2 => ⟨v0, by rw [← hv0]; exact ha2, ?_⟩⟩
    refine c_word k19 cD ha0 (List.getElem?_eq_getElem (show i.arr.toNat < (leakS S 2 v0 0).mem.length from hml)) hI (fun hm h20 k20 => ⟨none, rfl, ?_⟩) (fun hm hp0 hlt s a0 hs ha0' => ⟨some (a0.add (v0.toNat * 1)), rfl, ?_⟩)
    · refine cond_not (fun g => by cases g) (fun _ => done lBD k20 ?_)
      have hm : memIn S.mem i.arr v0 = false := hm
      rw [hdo, if_neg (by rw [hm]; simp)]
    · have hm : memIn S.mem i.arr v0 = true := hm
      refine cond_not (fun _ => ?_) (fun g => by cases g)
      refine (i15.le mono_int k19.le).ix (i := 1) (by omega) h1a fun a3 ha3 => ⟨v1, by rw [← hv1]; exact ha3, ?_⟩
      have hst := k19.setm (x := v1) (K := fun h26 => Wk h26 fun h27 => R (.bool true) h27) hs (List.getElem?_eq_getElem (show i.arr.toNat < (leakS S 2 v0 0).mem.length from hml)) hp0 hlt fun h3 k3 => done lBD k3 (by
        rw [hdo, if_pos hm]
        unfold memSet
        rw [List.getD_eq_getElem?_getD (l := S.mem), List.getElem?_eq_getElem hml]
        rfl)
      obtain ⟨a1, ha1, _, _, hst⟩ := hst
      rw [ha0'] at ha1
      cases ha1
      exact hst
  refine cond_eqi (fun (e7 : i.op = 7) => ?_) (fun (e7 : ¬ i.op = 7) => ?_)
  · obtain ⟨hf0, hf1, hal⟩ := right_call hr e7
    have hdo : doS p S rest f i = enterS p S i.fn (i.args.map f.vals) i.dst := by
      unfold doS
      rw [if_neg e, if_neg e2, if_neg e3, if_neg e4, if_neg e5, if_neg e6, if_pos e7]
    refine ⟨_, b5h.cell rfl, _, b5h.cell rfl, c_enter k2 cD hlen hf0 hf1 i15 (by rw [List.length_map]; exact hal) (fun he => ⟨false, rfl, ?_⟩) (fun h' fs' ys' S' he k' => ⟨true, rfl, ?_⟩)⟩
    · exact Wk_self (hR h2 fs lk ys false (lBD.trans k2.le) (fun e => by cases e) fun _ => hdo.trans he)
    · exact Wk_self (hR h' fs' lk ys' true (lBD.trans k'.le) (fun _ => ⟨S', hdo.trans he, k'.less lBD⟩) fun e => by cases e)
  · refine done lBD k2 ?_
    unfold doS
    rw [if_neg e, if_neg e2, if_neg e3, if_neg e4, if_neg e5, if_neg e6, if_neg e7]
end
end Go.Proofs.Ytapdnglpchejlaa

/- Contracts of package sim: finish, step. -/
namespace Go.Proofs.Ytapdnglpchejlaa
open Go Go.VL

theorem Box.from {h : V} {r : Nat} {cs vs : List Value} {T : TypeId} (b : Box h r cs T) (i : Nat) (hv : ∀ (j : Nat) v, vs[j]? = some v → cs[i + j]? = some v) : cellsAt h (Addr.add ⟨r, 0, none⟩ i) 0 vs :=
  cellsAt_of fun j v hj => by rw [Addr.add_add, Nat.zero_add]; exact b.cell (hv j v hj)
section
variable {hB hh h' : V} {p : ProgD} {r : Nat} {sa sf fs lk ms : Sl} {ys : List FrH} {rows : List Sl} {S : MS} {R : Value → V → Prop}
set_option maxRecDepth 100000 in
theorem c_finish {rest : List FrD} {f : FrD} {e : EndD} {w : Sl} {fa : Addr} (k : SimW hB hh p r sa sf fs lk ms ys rows S) (c : SimC hB p sa sf ms rows) (hS : S.fs = rest ++ [f]) (hfa : topA fs rest.length fa) (he : endsD (fnAt p f.fn).blocks e = true)
    (okm : MsOk p S) (hw : isEdges hB w e.ways) (hargs : ∀ w ∈ e.ways, w.args.length ≤ 1048576) (hb : (S.leaks.length + 1) * 24 ≤ 140737488355328)
    (hR : ∀ h' fs' lk' ys', SimW hB h' p r sa sf fs' lk' ms ys' rows (finishS p S rest f e) → R (.tuple ⟨[]⟩) h') :
    ACalls Try.prog 63 [.pointer (some ⟨r, 0, none⟩), .pointer (some fa), .agg ⟨endV e w⟩] hh R := by
  have hl : S.fs.length = rest.length + 1 := by rw [hS]; simp
  have okf := okm.fr f (by rw [hS]; simp)
  have hlen := okm.len
  have hx : S.fs[rest.length]? = some f := by rw [hS, get_last]
  obtain ⟨y, hy⟩ : ∃ y, ys[rest.length]? = some y := ⟨_, List.getElem?_eq_getElem (by rw [k.ylen]; omega)⟩
  refine S63_ok _ _ _ _ _ _ _ _ (New_box fun r5 h1 hr5 l1 b5 => ?_)
  obtain ⟨hC, lC, k1, e5⟩ := k.box1 l1 hr5 b5
  have b5C : Box hC r5 (endV e w) 58 := e5
  have cC := c.le lC
  have hwC := hw.le mono_edge lC
  have done : ∀ {h'' : V} {hE : V} {fs' lk' : Sl} {ys' : List FrH}, Le hB hE → SimW hE h'' p r sa sf fs' lk' ms ys' rows (finishS p S rest f e) → Wk h'' fun h' => R (.tuple ⟨[]⟩) h' := fun {h'' hE fs' lk' ys'} l k' => Wk_self (hR h'' fs' lk' ys' (k'.less l))
  refine Cut_i (fun st h2 => ∃ lk' S1 n, st = (((n : Nat) : Int), ()) ∧ SimW hC h2 p r sa sf fs lk' ms ys rows S1 ∧ S1.fs = S.fs ∧ n < e.ways.length ∧ finishS p S rest f e = wayS p S1 rest f (e.ways.getD n noE)) (fun J hJ => ?_) ?_
  · have b5h := b5C.le k1.le
    rcases ends_kind he with ⟨ek, ew⟩ | ⟨ek, ew⟩ | ⟨ek, ew⟩ | ⟨ek, ew⟩
    · refine ⟨e.kind, b5h.cell rfl, cond_eqi (fun e' => absurd (ek.symm.trans e') (by decide)) (fun _ => cond_eqi (fun e' => absurd (ek.symm.trans e') (by decide)) (fun _ => cond_eqi (fun e' => absurd (ek.symm.trans e') (by decide)) (fun _ => Wk_self (hJ _ _ ⟨lk, S, 0, rfl, k1, rfl, by omega, ?_⟩))))⟩
      unfold finishS
      rw [if_neg (by omega), if_neg (by omega), if_neg (by omega)]
    · refine ⟨e.kind, b5h.cell rfl, cond_eqi (fun e' => absurd (ek.symm.trans e') (by decide)) (fun _ => cond_eqi (fun e' => absurd (ek.symm.trans e') (by decide)) (fun _ => cond_eqi (fun _ => ?_) (fun e' => absurd ek e')))⟩
      have hlk := k1.look (v := e.val) (K := fun (x39 : Int) _ => CallK Try.prog 46 [(.bool (x39 != 0))] h1 (.un (.one (.int .i64))) fun (x41 : Int) h16 => CallK Try.prog 97 [(.pointer (some ⟨r, 0, none⟩)), iV 1, iV x41, iV 0] h16 (.tup []) fun (_ : Unit) h17 => Wk h17 fun h18 => J (IntKind.wrap .i64 (1 - x41), ()) h18) hx hy hfa fun _ => c_Bool ⟨_, rfl, c_leak k1 hb fun h' lk' k' => ⟨(), rfl, Wk_self (hJ _ _ ⟨lk', leakS S 1 (b2i (f.vals e.val != 0)) 0, (1 - b2i (f.vals e.val != 0)).toNat, ?_, k', rfl, ?_, ?_⟩)⟩⟩
      · obtain ⟨q', hq1, hq2⟩ := hlk
        exact ⟨q', hq1, e.val, b5h.cell rfl, hq2⟩
      · cases (f.vals e.val != 0) <;> rfl
      · rw [ew]; cases (f.vals e.val != 0) <;> decide
      · unfold finishS
        rw [if_neg (by omega), if_neg (by omega), if_pos ek]
    · refine ⟨e.kind, b5h.cell rfl, cond_eqi (fun _ => ?_) (fun e' => absurd ek e')⟩
      have hlk := k1.look (v := e.val) (K := fun (x23 : Int) _ => CallK Try.prog 95 [(.pointer (some ⟨r, 0, none⟩)), iV x23] h1 (.tup []) fun (_ : Unit) h12 => Wk h12 fun h13 => R (.tuple ⟨[]⟩) h13) hx hy hfa fun _ => c_leave k1 hS hlen fun h' fs' ys' k' => ⟨(), rfl, done lC (by
        have : finishS p S rest f e = leaveS S rest f (f.vals e.val) := by unfold finishS; rw [if_pos ek]
        rw [this]; exact k')⟩
      obtain ⟨q', hq1, hq2⟩ := hlk
      exact ⟨q', hq1, e.val, b5h.cell rfl, hq2⟩
    · refine ⟨e.kind, b5h.cell rfl, cond_eqi (fun e' => absurd (ek.symm.trans e') (by decide)) (fun _ => cond_eqi (fun _ => ⟨e.trap, b5h.cell rfl, c_trap k1 fun h' k' => ⟨(), rfl, done lC (?_ : SimW hC h' p r sa sf fs lk ms ys rows _)⟩⟩) (fun e' => absurd ek e'))⟩
      have : finishS p S rest f e = trapS S e.trap := by unfold finishS; rw [if_neg (by omega), if_pos ek]
      rw [this]; exact k'
  · rintro _ h2 ⟨lk', S1, n, rfl, k2, hS1, hn, hfin⟩
    have b5h := b5C.le k2.le
    have hxn : S1.fs[rest.length]? = some f := by rw [hS1]; exact hx
    have hgd : e.ways.getD n noE = e.ways[n] := by rw [List.getD_eq_getElem?_getD, List.getElem?_eq_getElem hn]; rfl
    have hwm := List.getElem_mem hn
    have hwok := endsD_ways he _ hwm
    have hto := wayOk_to hwok
    have hwa := wayOk_args hwok
    refine ⟨w, b5h.cell rfl, elem_edge hwC k2.le hn rfl rfl fun q hq r8 h4 l4 l4' hr8 b8 => ⟨q, b8.cell rfl, ?_⟩⟩
    obtain ⟨hD, lD, k4, e8⟩ := k2.box1 l4' hr8 b8
    have b8D : Box hD r8 (edgeV e.ways[n] q) 55 := e8
    refine c_values (n := rest.length) k4 hxn hy hfa (hq.le mono_int lD) (hargs _ hwm) fun x55 h5 l5 o55 => ⟨x55, rfl, ?_⟩
    obtain ⟨hE, lE, k5, oE⟩ := k4.addS l5 o55
    have i55 : isInts hE x55 (e.ways[n].args.map f.vals) := oE.ints
    have b8E := b8D.le lE
    have cE := (cC.le lD).le lE
    have lBE := (lC.trans lD).trans lE
    have hcell : ∀ (d : Nat) v, (encFr y)[d]? = some v → cellq h5 (Addr.add fa d) = some v := fun d v hv => by
      have := cellsAt_get (k5.frAt hy hfa) d v hv
      rwa [Nat.zero_add] at this
    obtain ⟨q1, q2, q3, q4, q5⟩ := k5.yq _ _ _ hxn hy
    refine ⟨sf, by rw [Addr.add_add]; exact k5.at rfl, y.fn, hcell 0 _ rfl, ?_⟩
    rw [q1]
    have hbl : (fnAt p f.fn).blocks = (p.funcs[f.fn.toNat]'okf.fn1).blocks := by rw [fnAt_eq okf.fn1]
    have hto2 : e.ways[n].to.toNat < (p.funcs[f.fn.toNat]'okf.fn1).blocks.length := by rw [← hbl]; exact hto.2
    refine cE.funcs.ix okf.fn0 okf.fn1 fun a ⟨sb, hsb, hcc⟩ => ⟨sb, (cellsAt_le k5.le hcc).2.1, e.ways[n].to, (b8E.le k5.le).cell rfl, ?_⟩
    refine hsb.ix (by omega) hto2 fun a2 ⟨pp, ii, ww, hpp, _, _, hc2⟩ => ⟨pp, (cellsAt_le k5.le hc2).1, ?_⟩
    have hps : ((p.funcs[f.fn.toNat]'okf.fn1).blocks[e.ways[n].to.toNat]'hto2) = (fnAt p f.fn).blocks.getD e.ways[n].to.toNat noB := by
      rw [hbl, List.getD_eq_getElem?_getD, List.getElem?_eq_getElem hto2]; rfl
    rw [hps] at hpp
    generalize hP : ((fnAt p f.fn).blocks.getD e.ways[n].to.toNat noB).params = ps at *
    have hal : (e.ways[n].args.map f.vals).length = ps.length := by rw [List.length_map]; exact hwa
    refine Lp_count ps.length (fun j st h6 => st = ((j : Int), ()) ∧ SimW hE h6 p r sa sf fs lk' ms ys rows { S1 with fs := rest ++ [{ f with vals := setVs f.vals (ps.take j) ((e.ways[n].args.map f.vals).take j) }] })
      ⟨rfl, by
        have : ({ S1 with fs := rest ++ [{ f with vals := setVs f.vals (ps.take 0) ((e.ways[n].args.map f.vals).take 0) }] } : MS) = S1 := by
          have e1 : setVs f.vals (ps.take 0) ((e.ways[n].args.map f.vals).take 0) = f.vals := rfl
          rw [e1, ← hS, ← hS1]
        rw [this]; exact k5⟩ ?_
    rintro j _ h6 K hj ⟨rfl, k6⟩ hK
    have hx6 : ∀ g : FrD, (rest ++ [g])[rest.length]? = some g := fun g => get_last rest g
    have b8h := b8E.le k6.le
    refine cond_dec (fun hlt => ?_) (fun hge => ?_)
    · have hj' : j < ps.length := by have := hpp.len; simp only at hlt; omega
      have hja : j < (e.ways[n].args.map f.vals).length := by omega
      refine (hpp.le mono_int k6.le).ixn hj' fun a3 ha3 => ⟨_, ha3, ?_⟩
      have hq := cellsAt_get (k6.frAt hy hfa) 3 (.map (some y.q)) rfl
      rw [Nat.zero_add] at hq
      refine ⟨some y.q, hq, (i55.le mono_int k6.le).ixn hja fun a4 ha4 => ⟨_, ha4, ?_⟩⟩
      refine k6.setv (hx6 _) hy fun h7 k7 => Wk_self (hK _ _ hj' ⟨by rw [wnat hj' hpp.bd], ?_⟩)
      rw [setVs_take hj' hja]
      simp only [set_last] at k7
      exact k7
    · have : j = ps.length := by have := hpp.len; simp only at hge; omega
      subst this
      rw [List.take_of_length_le (Nat.le_refl _), List.take_of_length_le (by omega)] at k6
      refine ⟨e.ways[n].to, b8h.cell rfl, ?_⟩
      refine k6.setf (d := 1) (x' := { f with vals := setVs f.vals ps (e.ways[n].args.map f.vals), block := e.ways[n].to }) (y' := { y with block := e.ways[n].to }) (hx6 _) hy hfa (by omega) rfl rfl rfl q1 rfl q3 q4 fun h9 k9 _ => ?_
      have hyl : rest.length < ys.length := (List.getElem?_eq_some_iff.1 hy).1
      refine k9.setf (d := 2) (x := { f with vals := setVs f.vals ps (e.ways[n].args.map f.vals), block := e.ways[n].to }) (x' := { f with vals := setVs f.vals ps (e.ways[n].args.map f.vals), block := e.ways[n].to, pos := 0 }) (y := { y with block := e.ways[n].to }) (y' := { y with block := e.ways[n].to, pos := 0 }) (by simp only [set_last]; exact get_last _ _) (List.getElem?_set_self hyl) hfa (by omega) rfl rfl rfl q1 rfl rfl q4 fun h10 k10 _ => ?_
      have this : finishS p S rest f e = { S1 with fs := rest ++ [{ f with vals := setVs f.vals ps (e.ways[n].args.map f.vals), block := e.ways[n].to, pos := 0 }] } := hfin.trans (by
        unfold wayS
        rw [hgd, hP])
      simp only [set_last] at k10
      rw [← this] at k10
      exact Wk_self (hR h10 fs lk' _ (k10.less lBE))

set_option maxRecDepth 100000 in
theorem c_step {rest : List FrD} {f : FrD} (k : SimW hB hh p r sa sf fs lk ms ys rows S) (c : SimC hB p sa sf ms rows) (hS : S.fs = rest ++ [f]) (ok : CheckOk p) (few : FewOk p) (okm : MsOk p S) (hb : (S.leaks.length + 1) * 24 ≤ 140737488355328)
    (hR : ∀ h' fs' lk' ys' b, Le hB h' → (b = true → ∃ S', stepS p S rest f = some S' ∧ SimW hB h' p r sa sf fs' lk' ms ys' rows S') → (b = false → stepS p S rest f = none) → R (.bool b) h') :
    ACalls Try.prog 37 [.pointer (some ⟨r, 0, none⟩)] hh R := by
  have hl : S.fs.length = rest.length + 1 := by rw [hS]; simp
  have okf := okm.fr f (by rw [hS]; simp)
  have hlen := okm.len
  have hx : S.fs[rest.length]? = some f := by rw [hS, get_last]
  obtain ⟨y, hy⟩ : ∃ y, ys[rest.length]? = some y := ⟨_, List.getElem?_eq_getElem (by rw [k.ylen]; omega)⟩
  have hfl := k.fn
  have hw : IntKind.wrap .i64 (((fs.n : Nat) : Int) - 1) = ((rest.length : Nat) : Int) := by rw [wlen (by omega) (by omega)]; congr 1; omega
  obtain ⟨q1, q2, q3, q4, q5⟩ := k.yq _ _ _ hx hy
  have hfm := List.getElem_mem okf.fn1
  have hfeq : fnAt p f.fn = p.funcs[f.fn.toNat]'okf.fn1 := fnAt_eq okf.fn1
  have hbl : f.block.toNat < (p.funcs[f.fn.toNat]'okf.fn1).blocks.length := by have := okf.b1; rwa [hfeq] at this
  have hbm := List.getElem_mem hbl
  have hbeq : blAt p f = (p.funcs[f.fn.toNat]'okf.fn1).blocks[f.block.toNat]'hbl := by
    unfold blAt
    rw [hfeq, List.getD_eq_getElem?_getD, List.getElem?_eq_getElem hbl]; rfl
  obtain ⟨okE, okI⟩ := (ok.funcs _ hfm).2.2.2.1 _ hbm
  have fewB' := (few.all _ hfm).all _ hbm
  refine S37_ok _ _ _ ⟨fs, k.at rfl, fs, k.at rfl, k.frIx (n := rest.length) (by rw [k.ylen]; omega) hw fun fa hfa => ⟨sf, by rw [Addr.add_add]; exact k.at rfl, ?_⟩⟩
  have hcell : ∀ {hh' : V} {fs' lk' : Sl} {ys' : List FrH} {S' : MS} {y' : FrH} (d : Nat) v, SimW hB hh' p r sa sf fs lk' ms ys' rows S' → ys'[rest.length]? = some y' → (encFr y')[d]? = some v → cellq hh' (Addr.add fa d) = some v := fun {hh' fs' lk' ys' S' y'} d v k' hy' hv => by
    have := cellsAt_get (k'.frAt hy' hfa) d v hv
    rwa [Nat.zero_add] at this
  refine ⟨f.fn, by rw [← q1]; exact hcell (fs' := fs) 0 _ k hy rfl, c.funcs.ix okf.fn0 okf.fn1 fun a ⟨sb, hsb, hcc⟩ => ⟨sb, (cellsAt_le k.le hcc).2.1, ?_⟩⟩
  have eb : f.block = ((f.block.toNat : Nat) : Int) := by have := okf.b0; omega
  refine ⟨((f.block.toNat : Nat) : Int), by rw [← eb, ← q2]; exact hcell (fs' := fs) 1 _ k hy rfl, ?_⟩
  refine elem_block hsb k.le hbl rfl rfl fun pp ii ww hpp hii hww r4 h2 l2 l2' hr4 b4 => ?_
  obtain ⟨hC, lC, k2, e4⟩ := k.box1 l2' hr4 b4
  have b4C : Box hC r4 _ 60 := e4
  have cC := c.le lC
  rw [← hbeq] at hpp hii hww okE okI fewB' b4 b4C
  refine ⟨f.pos, by rw [← q3]; exact (by have := cellsAt_get (k2.frAt hy hfa) 2 (iV y.pos) rfl; rwa [Nat.zero_add] at this), ii, b4.cell rfl, ?_⟩
  have hn := hii.len
  refine cond_eqi (fun (e : f.pos = ((ii.n : Nat) : Int)) => ?_) (fun (e : ¬ f.pos = ((ii.n : Nat) : Int)) => ?_)
  · refine ⟨((blAt p f).e.kind, (blAt p f).e.val, ww, (blAt p f).e.trap, ()), Box.from (vs := [iV (blAt p f).e.kind, iV (blAt p f).e.val, sV ww, iV (blAt p f).e.trap]) b4 2 (fun j v hv => ?_), ?_⟩
    · match j, hv with
      | 0, hv => exact hv
      | 1, hv => exact hv
      | 2, hv => exact hv
      | 3, hv => exact hv
    refine c_finish k2 cC hS hfa (by rw [hfeq]; exact okE) okm (hww.le mono_edge lC) (fun w hw => by have := fewB'.wargs w hw; omega) hb fun h' fs' lk' ys' k' => ⟨(), rfl, Wk_self (hR h' fs' lk' ys' true (lC.trans k'.le) (fun _ => ⟨_, ?_, k'.less lC⟩) fun e => by cases e)⟩
    unfold stepS
    simp only
    rw [if_pos (by rw [e, hn])]
  · have hp0 := okf.p0
    have hp1 := okf.p1
    have hlt : f.pos.toNat < (blAt p f).ins.length := by omega
    have fi := fewB'.ins
    refine ⟨f.pos, by rw [← q3]; exact (by have := cellsAt_get (k2.frAt hy hfa) 2 (iV y.pos) rfl; rwa [Nat.zero_add] at this), ?_⟩
    have hw1 : IntKind.wrap .i64 (f.pos + 1) = f.pos + 1 := w64 (by omega) (by omega)
    show StL h2 (Addr.add fa 2) 0 [iV (IntKind.wrap .i64 (f.pos + 1))] _
    rw [hw1]
    refine k2.setf (d := 2) (x' := { f with pos := f.pos + 1 }) (y' := { y with pos := f.pos + 1 }) hx hy hfa (by omega) rfl rfl rfl q1 q2 rfl q4 fun h5 k5 _ => ?_
    have hyl : rest.length < ys.length := (List.getElem?_eq_some_iff.1 hy).1
    have hy5 : (ys.set rest.length { y with pos := f.pos + 1 })[rest.length]? = some { y with pos := f.pos + 1 } := List.getElem?_set_self hyl
    have hs5 : ({ S with fs := S.fs.set rest.length { f with pos := f.pos + 1 } } : MS) = { S with fs := rest ++ [{ f with pos := f.pos + 1 }] } := by rw [hS, set_last]
    rw [hs5] at k5
    refine ⟨ii, (b4C.le k5.le).cell rfl, f.pos + 1, (by have := cellsAt_get (k5.frAt hy5 hfa) 2 (iV (f.pos + 1)) rfl; rwa [Nat.zero_add] at this), ?_⟩
    have hw2 : IntKind.wrap .i64 (f.pos + 1 - 1) = ((f.pos.toNat : Nat) : Int) := by rw [w64 (by omega) (by omega)]; omega
    show Ix ii (IntKind.wrap .i64 (f.pos + 1 - 1)) 7 _
    rw [hw2]
    refine (hii.le mono_ins lC).ixn hlt fun a5 ⟨q, hq, hcq⟩ => ⟨(((blAt p f).ins[f.pos.toNat]).op, ((blAt p f).ins[f.pos.toNat]).dst, q, ((blAt p f).ins[f.pos.toNat]).num, ((blAt p f).ins[f.pos.toNat]).bin, ((blAt p f).ins[f.pos.toNat]).arr, ((blAt p f).ins[f.pos.toNat]).fn, ()), cellsAt_le k5.le hcq, ?_⟩
    have him := List.getElem_mem hlt
    have okm5 : MsOk p { S with fs := rest ++ [{ f with pos := f.pos + 1 }] } := ⟨fun g hg => by
        rcases List.mem_append.1 hg with hg | hg
        · exact okm.fr g (by rw [hS]; simp [hg])
        · rw [List.mem_singleton.1 hg]
          refine ⟨okf.fn0, okf.fn1, okf.b0, okf.b1, by show 0 ≤ f.pos + 1; omega, ?_, okf.vals⟩
          show f.pos + 1 ≤ (((blAt p f).ins.length : Nat) : Int)
          omega, okm.mem, okm.rows, by have := okm.len; rw [hS] at this; simpa using this⟩
    refine c_do k5 cC rfl hfa (okI _ him) okm5 hq (by have := fewB'.args _ him; omega) hb fun h' fs' lk' ys' b lh' hb1 hb2 => ⟨b, rfl, Wk_self (hR h' fs' lk' ys' b (lC.trans lh') (fun e' => ?_) fun e' => ?_)⟩
    · obtain ⟨S', e1, e2⟩ := hb1 e'
      refine ⟨S', ?_, e2.less lC⟩
      unfold stepS
      simp only
      rw [if_neg (by rw [← hn]; exact e), List.getD_eq_getElem?_getD, List.getElem?_eq_getElem hlt]
      exact e1
    · have := hb2 e'
      unfold stepS
      simp only
      rw [if_neg (by rw [← hn]; exact e), List.getD_eq_getElem?_getD, List.getElem?_eq_getElem hlt]
      exact this
end
end Go.Proofs.Ytapdnglpchejlaa

/- Plain: a machine that is as it may be stays so. -/
namespace Go.Proofs.Ytapdnglpchejlaa
open Go Go.VL

theorem I64_zero : I64 0 := ⟨by decide, by decide⟩
theorem setV_I64 {vals : Int → Int} {v x : Int} (h : ∀ u, I64 (vals u)) (hx : I64 x) : ∀ u, I64 (setV vals v x u) := fun u => by
  unfold setV
  split
  · exact hx
  · exact h u
theorem setVs_I64 : ∀ {vs xs : List Int} {vals : Int → Int}, (∀ u, I64 (vals u)) → (∀ x ∈ xs, I64 x) → ∀ u, I64 (setVs vals vs xs u)
  | [], [], _, h, _ => h
  | [], _ :: _, _, h, _ => h
  | _ :: _, [], _, h, _ => h
  | v :: vs, x :: xs, vals, h, hx => setVs_I64 (vs := vs) (xs := xs) (setV_I64 h (hx x List.mem_cons_self)) fun y hy => hx y (List.mem_cons_of_mem _ hy)
structure StepFacts (p : ProgD) (S S' : MS) : Prop where
  ok : MsOk p S'
  live : S'.fs = [] → S'.fin = true
  leaks : S'.leaks.length ≤ S.leaks.length + 1
  steps : S'.steps = S.steps
section
variable {p : ProgD} {S S' : MS} {rest : List FrD} {f : FrD}
theorem MsOk.frs (okm : MsOk p S) {l : List FrD} {S1 : MS} (h1 : S1.fs = l) (h2 : S1.mem = S.mem) (hl : ∀ g ∈ l, FrOk p g) (hn : l.length ≤ 2000) : MsOk p S1 := ⟨by rw [h1]; exact hl, by rw [h2]; exact okm.mem, by rw [h2]; exact okm.rows, by rw [h1]; exact hn⟩
theorem FrOk.setv (ok : FrOk p f) {v x : Int} (hx : I64 x) : FrOk p { f with vals := setV f.vals v x } := ⟨ok.fn0, ok.fn1, ok.b0, ok.b1, ok.p0, ok.p1, setV_I64 ok.vals hx⟩
theorem put_facts {S1 : MS} {v x : Int} (okm : MsOk p S) (hS : S.fs = rest ++ [f]) (hx : I64 x) (h1 : S1.mem = S.mem) (h2 : S1.leaks.length ≤ S.leaks.length + 1) (h3 : S1.steps = S.steps) : StepFacts p S (putS S1 rest f v x) := by
  refine ⟨okm.frs rfl h1 (fun g hg => ?_) ?_, fun e => ?_, h2, h3⟩
  · rcases List.mem_append.1 hg with hg | hg
    · exact okm.fr g (by rw [hS]; simp [hg])
    · rw [List.mem_singleton.1 hg]
      exact (okm.fr f (by rw [hS]; simp)).setv hx
  · have := okm.len
    rw [hS] at this
    show (rest ++ [_]).length ≤ 2000
    simpa using this
  · unfold putS at e; simp at e
theorem trap_facts {S1 : MS} {t : Int} (h : StepFacts p S S1) : StepFacts p S (trapS S1 t) := ⟨⟨h.ok.fr, h.ok.mem, h.ok.rows, h.ok.len⟩, fun _ => rfl, h.leaks, h.steps⟩
theorem same_facts {S1 : MS} (okm : MsOk p S) (hS : S.fs = rest ++ [f]) (h0 : S1.fs = S.fs) (h1 : S1.mem = S.mem) (h2 : S1.leaks.length ≤ S.leaks.length + 1) (h3 : S1.steps = S.steps) : StepFacts p S S1 :=
  ⟨okm.frs h0 h1 okm.fr okm.len, fun e => by rw [h0, hS] at e; simp at e, h2, h3⟩
theorem memAt_I64 (okm : MsOk p S) (arr i : Int) : I64 (memAt S.mem arr i) := by
  unfold memAt
  rw [List.getD_eq_getElem?_getD (l := S.mem)]
  cases hm : S.mem[arr.toNat]? with
  | none => simp; exact I64_zero
  | some l =>
    have := (okm.rows l (List.mem_of_getElem? hm)).2
    simp only [Option.getD_some]
    rw [List.getD_eq_getElem?_getD]
    cases hx : l[i.toNat]? with
    | none => exact I64_zero
    | some x => exact this x (List.mem_of_getElem? hx)
theorem mem_facts {S1 : MS} {arr i x : Int} (okm : MsOk p S) (hS : S.fs = rest ++ [f]) (hx : I64 x) (h0 : S1.fs = S.fs) (h1 : S1.mem = memSet S.mem arr i x) (h2 : S1.leaks.length ≤ S.leaks.length + 1) (h3 : S1.steps = S.steps) : StepFacts p S S1 := by
  refine ⟨⟨by rw [h0]; exact okm.fr, by rw [h1]; unfold memSet; rw [List.length_set]; exact okm.mem, fun l hl => ?_, by rw [h0]; exact okm.len⟩, fun e => by rw [h0, hS] at e; simp at e, h2, h3⟩
  rw [h1] at hl
  unfold memSet at hl
  rcases List.mem_or_eq_of_mem_set hl with g | g
  · exact okm.rows l g
  · subst g
    rw [List.getD_eq_getElem?_getD]
    cases hm : S.mem[arr.toNat]? with
    | none =>
      -- then nothing is set
      exfalso
      rw [List.set_eq_of_length_le (by rw [List.getElem?_eq_none_iff] at hm; exact hm)] at hl
      obtain ⟨hne, _⟩ := okm.rows _ hl
      rw [List.getD_eq_getElem?_getD, hm] at hne
      simp at hne
    | some l =>
      obtain ⟨hne, hall⟩ := okm.rows l (List.mem_of_getElem? hm)
      refine ⟨fun e => hne (by simpa using e), fun y hy => ?_⟩
      rcases List.mem_or_eq_of_mem_set hy with g | g
      · exact hall y g
      · rw [g]; exact hx
theorem arg_I64 (okf : FrOk p f) (l : List Int) (n : Nat) : I64 ((l.map f.vals).getD n 0) := by
  rw [List.getD_eq_getElem?_getD]
  cases hx : (l.map f.vals)[n]? with
  | none => exact I64_zero
  | some x => exact okf.args l x (List.mem_of_getElem? hx)
theorem enter_facts {fn dst : Int} {args : List Int} (ok : CheckOk p) (okm : MsOk p S) (h0 : 0 ≤ fn) (hfn : fn.toNat < p.funcs.length) (ha : ∀ x ∈ args, I64 x) (h : enterS p S fn args dst = some S') : StepFacts p S S' := by
  unfold enterS at h
  split at h
  · cases h
  · rename_i hlen
    cases h
    refine ⟨okm.frs rfl rfl (fun g hg => ?_) (by simp; omega), fun e => by simp at e, Nat.le_succ _, rfl⟩
    rcases List.mem_append.1 hg with hg | hg
    · exact okm.fr g hg
    · rw [List.mem_singleton.1 hg]
      have hne := (ok.funcs _ (List.getElem_mem hfn)).1
      refine ⟨h0, hfn, Int.le_refl _, ?_, Int.le_refl _, by show (0 : Int) ≤ _; omega, setVs_I64 (fun _ => I64_zero) ha⟩
      show (0 : Nat) < (fnAt p fn).blocks.length
      rw [fnAt_eq hfn]
      exact List.length_pos_iff.2 hne
theorem do_facts {i : InsD} (ok : CheckOk p) (okm : MsOk p S) (hS : S.fs = rest ++ [f]) (hr : rightD p i = true) (hn : I64 i.num) (h : doS p S rest f i = some S') : StepFacts p S S' := by
  have okf := okm.fr f (by rw [hS]; simp)
  have lk : ∀ a b c, (leakS S a b c).leaks.length ≤ S.leaks.length + 1 := fun a b c => by unfold leakS; simp
  unfold doS at h
  by_cases e : i.op = 1
  · rw [if_pos e] at h; cases h
    exact put_facts okm hS hn rfl (Nat.le_succ _) rfl
  rw [if_neg e] at h
  by_cases e2 : i.op = 2
  · rw [if_pos e2] at h; cases h
    have key : ∀ S1 : MS, S1.mem = S.mem → S1.leaks.length ≤ S.leaks.length + 1 → S1.steps = S.steps → StepFacts p S (putS S1 rest f i.dst (doW i.bin ((i.args.map f.vals).getD 0 0) ((i.args.map f.vals).getD 1 0)).1) := fun S1 h1 h2 h3 => put_facts okm hS (doW_I64 (arg_I64 okf _ _) (arg_I64 okf _ _)) h1 h2 h3
    have key2 := key (if i.bin = 4 ∨ i.bin = 5 then leakS S 3 ((i.args.map f.vals).getD 0 0) ((i.args.map f.vals).getD 1 0) else S) (by split <;> rfl) (by split; exact lk _ _ _; exact Nat.le_succ _) (by split <;> rfl)
    by_cases g : (doW i.bin ((i.args.map f.vals).getD 0 0) ((i.args.map f.vals).getD 1 0)).2 = true
    · rw [if_pos g]; exact key2
    · rw [if_neg g]; exact trap_facts key2
  rw [if_neg e2] at h
  by_cases e3 : i.op = 3
  · rw [if_pos e3] at h; cases h
    exact put_facts okm hS (memAt_I64 okm _ _) rfl (Nat.le_succ _) rfl
  rw [if_neg e3] at h
  by_cases e4 : i.op = 4
  · rw [if_pos e4] at h; cases h
    exact mem_facts okm hS (arg_I64 okf _ _) rfl rfl (Nat.le_succ _) rfl
  rw [if_neg e4] at h
  by_cases e5 : i.op = 5
  · rw [if_pos e5] at h; cases h
    by_cases g : memIn S.mem i.arr ((i.args.map f.vals).getD 0 0) = true
    · rw [if_pos g]; exact put_facts okm hS (memAt_I64 okm _ _) rfl (lk _ _ _) rfl
    · rw [if_neg g]; exact trap_facts (same_facts okm hS rfl rfl (lk _ _ _) rfl)
  rw [if_neg e5] at h
  by_cases e6 : i.op = 6
  · rw [if_pos e6] at h; cases h
    by_cases g : memIn S.mem i.arr ((i.args.map f.vals).getD 0 0) = true
    · rw [if_pos g]; exact mem_facts okm hS (arg_I64 okf _ 1) rfl rfl (lk _ _ _) rfl
    · rw [if_neg g]; exact trap_facts (same_facts okm hS rfl rfl (lk _ _ _) rfl)
  rw [if_neg e6] at h
  by_cases e7 : i.op = 7
  · rw [if_pos e7] at h
    obtain ⟨hf0, hf1, _⟩ := right_call hr e7
    exact enter_facts ok okm hf0 hf1 (okf.args _) h
  rw [if_neg e7] at h; cases h
  exact same_facts okm hS rfl rfl (Nat.le_succ _) rfl
theorem backS_ok {v x : Int} (hx : I64 x) : ∀ {l : List FrD}, (∀ g ∈ l, FrOk p g) → (∀ g ∈ backS l v x, FrOk p g) ∧ (backS l v x).length = l.length
  | [], _ => ⟨fun g hg => by simp [backS] at hg, rfl⟩
  | [f], h => ⟨fun g hg => by
      simp only [backS, List.mem_singleton] at hg
      rw [hg]; exact (h f (by simp)).setv hx, rfl⟩
  | f :: g :: l, h => by
    obtain ⟨h1, h2⟩ := backS_ok hx (l := g :: l) fun z hz => h z (List.mem_cons_of_mem _ hz)
    refine ⟨fun z hz => ?_, ?_⟩
    · rcases List.mem_cons.1 (show z ∈ f :: backS (g :: l) v x from hz) with e | e
      · rw [e]; exact h f (by simp)
      · exact h1 z e
    · show (f :: backS (g :: l) v x).length = _
      rw [List.length_cons, h2]; rfl
theorem way_facts {S1 : MS} {w : EdgeD} (okm : MsOk p S) (hS : S.fs = rest ++ [f]) (hw : wayOk (fnAt p f.fn).blocks w = true) (h1 : S1.mem = S.mem) (h2 : S1.leaks.length ≤ S.leaks.length + 1) (h3 : S1.steps = S.steps) : StepFacts p S (wayS p S1 rest f w) := by
  have okf := okm.fr f (by rw [hS]; simp)
  have hto := wayOk_to hw
  refine ⟨okm.frs rfl h1 (fun g hg => ?_) ?_, fun e => ?_, h2, h3⟩
  · rcases List.mem_append.1 hg with hg | hg
    · exact okm.fr g (by rw [hS]; simp [hg])
    · rw [List.mem_singleton.1 hg]
      exact ⟨okf.fn0, okf.fn1, by show 0 ≤ w.to; omega, hto.2, Int.le_refl _, by show (0 : Int) ≤ _; omega, setVs_I64 okf.vals (okf.args _)⟩
  · have := okm.len
    rw [hS] at this
    show (rest ++ [_]).length ≤ 2000
    simpa using this
  · unfold wayS at e; simp at e
theorem finish_facts {e : EndD} (okm : MsOk p S) (hS : S.fs = rest ++ [f]) (he : endsD (fnAt p f.fn).blocks e = true) : StepFacts p S (finishS p S rest f e) := by
  have okf := okm.fr f (by rw [hS]; simp)
  have hws := endsD_ways he
  have hlen := okm.len
  rw [hS] at hlen
  simp at hlen
  unfold finishS
  rcases ends_kind he with ⟨ek, ew⟩ | ⟨ek, ew⟩ | ⟨ek, ew⟩ | ⟨ek, ew⟩
  · rw [if_neg (by omega), if_neg (by omega), if_neg (by omega)]
    refine way_facts okm hS ?_ rfl (Nat.le_succ _) rfl
    rw [List.getD_eq_getElem?_getD, List.getElem?_eq_getElem (by omega)]
    exact hws _ (List.getElem_mem _)
  · rw [if_neg (by omega), if_neg (by omega), if_pos ek]
    refine way_facts okm hS ?_ rfl (by unfold leakS; simp) rfl
    have : (1 - b2i (f.vals e.val != 0)).toNat < e.ways.length := by rw [ew]; cases (f.vals e.val != 0) <;> decide
    rw [List.getD_eq_getElem?_getD, List.getElem?_eq_getElem this]
    exact hws _ (List.getElem_mem _)
  · rw [if_pos ek]
    unfold leaveS
    split
    · exact ⟨okm.frs (S1 := { S with fs := [], val := f.vals e.val, fin := true }) (l := []) rfl rfl (by simp) (by simp), fun _ => rfl, Nat.le_succ _, rfl⟩
    · rename_i hne
      obtain ⟨h1, h2⟩ := backS_ok (p := p) (v := f.dst) (okf.vals e.val) (l := rest) fun g hg => okm.fr g (by rw [hS]; simp [hg])
      refine ⟨okm.frs (S1 := { S with fs := backS rest f.dst (f.vals e.val) }) (l := backS rest f.dst (f.vals e.val)) rfl rfl h1 (by omega), fun e' => ?_, Nat.le_succ _, rfl⟩
      have e' : backS rest f.dst (f.vals e.val) = [] := e'
      rw [e'] at h2
      exact absurd (List.eq_nil_of_length_eq_zero h2.symm) hne
  · rw [if_neg (by omega), if_pos ek]
    exact trap_facts (same_facts okm hS rfl rfl (Nat.le_succ _) rfl)
theorem step_facts (ok : CheckOk p) (nums : NumsOk p) (okm : MsOk p S) (hS : S.fs = rest ++ [f]) (h : stepS p S rest f = some S') : StepFacts p S S' := by
  have okf := okm.fr f (by rw [hS]; simp)
  have hfm := List.getElem_mem okf.fn1
  have hfeq : fnAt p f.fn = p.funcs[f.fn.toNat]'okf.fn1 := fnAt_eq okf.fn1
  have hbl : f.block.toNat < (p.funcs[f.fn.toNat]'okf.fn1).blocks.length := by have := okf.b1; rwa [hfeq] at this
  have hbm := List.getElem_mem hbl
  have hbeq : blAt p f = (p.funcs[f.fn.toNat]'okf.fn1).blocks[f.block.toNat]'hbl := by
    unfold blAt
    rw [hfeq, List.getD_eq_getElem?_getD, List.getElem?_eq_getElem hbl]; rfl
  obtain ⟨okE, okI⟩ := (ok.funcs _ hfm).2.2.2.1 _ hbm
  unfold stepS at h
  simp only at h
  by_cases e : f.pos = ((blAt p f).ins.length : Nat)
  · rw [if_pos e] at h; cases h
    exact finish_facts okm hS (by rw [hfeq, hbeq]; exact okE)
  · rw [if_neg e] at h
    have hp0 := okf.p0
    have hp1 := okf.p1
    have hlt : f.pos.toNat < (blAt p f).ins.length := by omega
    have okm5 : MsOk p { S with fs := rest ++ [{ f with pos := f.pos + 1 }] } := ⟨fun g hg => by
        rcases List.mem_append.1 hg with hg | hg
        · exact okm.fr g (by rw [hS]; simp [hg])
        · rw [List.mem_singleton.1 hg]
          refine ⟨okf.fn0, okf.fn1, okf.b0, okf.b1, by show 0 ≤ f.pos + 1; omega, ?_, okf.vals⟩
          show f.pos + 1 ≤ (((blAt p f).ins.length : Nat) : Int)
          omega, okm.mem, okm.rows, by have := okm.len; rw [hS] at this; simpa using this⟩
    rw [List.getD_eq_getElem?_getD, List.getElem?_eq_getElem hlt] at h
    have him := List.getElem_mem hlt
    generalize hi : (blAt p f).ins[f.pos.toNat] = i at *
    have him' : i ∈ ((p.funcs[f.fn.toNat]'okf.fn1).blocks[f.block.toNat]'hbl).ins := by rw [← hbeq]; exact him
    have := do_facts ok okm5 rfl (okI i him') (nums _ hfm _ hbm _ him') h
    exact ⟨this.ok, this.live, this.leaks, this.steps⟩
end
end Go.Proofs.Ytapdnglpchejlaa

/- Contracts of package sim: Start. -/
namespace Go.Proofs.Ytapdnglpchejlaa
open Go Go.VL

/- an own slice's first cells are stored -/
theorem OwnS.store {h0 h : V} {s : Sl} {T : TypeId} {cs vs : List Value} {K : V → Prop} (o : OwnS h0 h s T 1 cs) (l : Le h0 h) (hlen : vs.length ≤ cs.length)
    (hk : ∀ h', Le h0 h' → OwnS h0 h' s T 1 (vs ++ cs.drop vs.length) → (∀ b, (∀ a, s.a = some a → b ≠ a.block) → h' b = h b) → K h') : ∀ a, s.a = some a → StL h a 0 vs K := by
  intro a ha
  obtain ⟨h1, h2, h3, h4⟩ := o
  rcases h4 with ⟨ha', hc⟩ | ⟨r, off, arr, ha', hr0, hr, hsz, ht⟩
  · rw [ha'] at ha; cases ha
  · rw [ha'] at ha
    cases ha
    refine StL_at (h := h) vs arr 0 h (by omega) hr (fun _ _ => rfl) ?_
    rintro h' ⟨arr', hr', hs', he'⟩ hF
    refine hk h' (fun b x hb => (hF b (fun e => by subst e; rw [hr0] at hb; cases hb)).trans (l _ _ hb)) ⟨by rw [List.length_append, List.length_drop]; omega, h2, h3, .inr ⟨r, off, arr', ha', hr0, hr', by rw [hs']; exact hsz, ?_⟩⟩ (fun b hb => hF b (hb _ ha'))
    have hal : arr.toList.length = arr.size := Array.length_toList
    rw [he', Nat.add_zero, ← ht]
    apply List.ext_getElem?
    intro j
    by_cases hj : j < s.n * 1
    · rw [List.getElem?_take_of_lt hj, List.getElem?_drop, List.append_assoc]
      have e1 : (List.take off arr.toList).length = off := by rw [List.length_take]; omega
      rw [List.getElem?_append_right (by omega), e1, show off + j - off = j by omega]
      by_cases hv : j < vs.length
      · rw [List.getElem?_append_left hv, List.getElem?_append_left hv]
      · rw [List.getElem?_append_right (by omega), List.getElem?_append_right (by omega), List.getElem?_drop, List.getElem?_drop, List.getElem?_take_of_lt (by omega), List.getElem?_drop]
        congr 1; omega
    · rw [List.getElem?_take_eq_none (by omega), List.getElem?_eq_none]
      rw [List.length_append, List.length_drop, List.length_take, List.length_drop]; omega
theorem Cpy_own {h0 h : V} {s x : Sl} {T : TypeId} {n : Nat} {ys : List Int} {K : Int → V → Prop} (o : OwnS h0 h s T 1 (List.replicate n (iV 0))) (l : Le h0 h) (hx : isInts h x ys)
    (hk : ∀ m h', Le h0 h' → OwnS h0 h' s T 1 ((rowOf n ys).map (Value.int .i64)) → (∀ b, (∀ a, s.a = some a → b ≠ a.block) → h' b = h b) → K m h') : Cpy h s x 1 K := by
  have hn : s.n = n := by have := o.1; simp at this; omega
  obtain ⟨c1, c2⟩ := isSl_cells (enc := Value.int .i64) (fun _ _ _ h => h) hx
  have hxn := hx.len
  have e : ((ys.take n).map (Value.int .i64)) ++ (List.replicate n (iV 0)).drop ((ys.take n).map (Value.int .i64)).length = (rowOf n ys).map (Value.int .i64) := by
    unfold rowOf
    rw [List.map_append, List.map_replicate, List.drop_replicate, List.length_map, List.length_take]
    congr 2
    omega
  have hlen : ((ys.take n).map (Value.int .i64)).length = Nat.min x.n s.n := by rw [List.length_map, List.length_take, hxn, hn, Nat.min_comm]
  refine ⟨(ys.take n).map (Value.int .i64), fun ha => by rw [c2 ha]; exact Nat.zero_min _, ⟨by rw [hlen, Nat.mul_one], fun a ha => cellsAt_of fun j v hv => ?_⟩, ints_one _, fun a ha => ?_, fun ha => ?_⟩
  · have := cellsAt_get (c1.2 a ha) j v (by
      rw [List.map_take] at hv
      rw [List.getElem?_take] at hv
      split at hv
      · exact hv
      · cases hv)
    exact this
  · refine OwnS.store o l (by rw [hlen, List.length_replicate, ← hn]; exact Nat.min_le_right _ _) (fun h' l' o' f' => hk _ h' l' (by rw [← e]; exact o') f') a ha
  · have hc : s.c = 0 := by
      rcases o.2.2.2 with ⟨_, hc⟩ | ⟨r, off, arr, ha', _⟩
      · exact hc
      · rw [ha] at ha'; cases ha'
    have hn0 : n = 0 := by have := o.2.1; omega
    subst hn0
    refine hk _ h l ?_ fun _ _ => rfl
    rw [← e]
    simpa using o
def cntO (l : List ArrD) : Nat := (l.filter fun a => decide (a.hold ≠ 0)).length
def rowAt (ins : List (List Int)) (l : List ArrD) (a : ArrD) : List Int := if a.hold = 0 then List.replicate (rowLen a) 0 else match ins[cntO l]? with
  | some w => rowOf (rowLen a) w
  | none => List.replicate (rowLen a) 0
theorem startM_nil : ∀ l : List ArrD, startM l [] = l.map fun a => List.replicate (rowLen a) 0
  | [] => rfl
  | a :: l => by
    show (if a.hold = 0 then _ else _) = _
    rw [startM_nil l]
    split <;> rfl
theorem startM_snoc : ∀ (l : List ArrD) (a : ArrD) (ins : List (List Int)), startM (l ++ [a]) ins = startM l ins ++ [rowAt ins l a]
  | [], a, ins => by
    unfold rowAt
    show (if a.hold = 0 then List.replicate (rowLen a) 0 :: startM [] ins else _) = _
    cases ins with
    | nil => split <;> rfl
    | cons w ins => split <;> rfl
  | b :: l, a, ins => by
    show (if b.hold = 0 then List.replicate (rowLen b) 0 :: startM (l ++ [a]) ins else _) = (if b.hold = 0 then List.replicate (rowLen b) 0 :: startM l ins else _) ++ _
    by_cases hb : b.hold = 0
    · rw [if_pos hb, if_pos hb, startM_snoc l a ins]
      have : rowAt ins (b :: l) a = rowAt ins l a := by unfold rowAt cntO; simp [hb]
      rw [this]; rfl
    · rw [if_neg hb, if_neg hb]
      cases ins with
      | nil =>
        show List.replicate (rowLen b) 0 :: startM (l ++ [a]) [] = _
        rw [startM_snoc l a []]
        have : rowAt [] (b :: l) a = rowAt [] l a := by unfold rowAt; simp
        rw [this]; rfl
      | cons w ins =>
        show rowOf (rowLen b) w :: startM (l ++ [a]) ins = _
        rw [startM_snoc l a ins]
        have : rowAt (w :: ins) (b :: l) a = rowAt ins l a := by
          unfold rowAt cntO
          simp [hb]
        rw [this]; rfl
theorem startM_len : ∀ (l : List ArrD) (ins : List (List Int)), (startM l ins).length = l.length
  | [], _ => rfl
  | a :: l, ins => by
    show (if a.hold = 0 then List.replicate (rowLen a) 0 :: startM l ins else _).length = _
    split
    · simp [startM_len l ins]
    · cases ins with
      | nil => simp [startM_len l []]
      | cons w ins => simp [startM_len l ins]
theorem rowLen_pos (a : ArrD) : 1 ≤ rowLen a ∧ rowLen a ≤ 4096 := by
  unfold rowLen
  split
  · omega
  split
  · omega
  · omega
theorem rowOf_len (n : Nat) (w : List Int) : (rowOf n w).length = n := by
  unfold rowOf
  rw [List.length_append, List.length_take, List.length_replicate]; omega
theorem startM_rows (ins : List (List Int)) (hI : ∀ w ∈ ins, ∀ x ∈ w, I64 x) : ∀ (l : List ArrD), ∀ r ∈ startM l ins, r ≠ [] ∧ ∀ x ∈ r, I64 x := by
  have zero : ∀ a : ArrD, List.replicate (rowLen a) (0 : Int) ≠ [] ∧ ∀ x ∈ List.replicate (rowLen a) (0 : Int), I64 x := fun a => by
    have := rowLen_pos a
    refine ⟨fun e => ?_, fun x hx => by rw [(List.mem_replicate.1 hx).2]; exact I64_zero⟩
    have := congrArg List.length e
    simp at this; omega
  intro l
  induction l generalizing ins with
  | nil => intro r hr; simp [startM] at hr
  | cons a l ih =>
    intro r hr
    unfold startM at hr
    split at hr
    · rcases List.mem_cons.1 hr with e | e
      · rw [e]; exact zero a
      · exact ih ins hI r e
    · cases ins with
      | nil =>
        rcases List.mem_cons.1 hr with e | e
        · rw [e]; exact zero a
        · exact ih [] (by simp) r e
      | cons w ins =>
        rcases List.mem_cons.1 hr with e | e
        · rw [e]
          have hl := rowOf_len (rowLen a) w
          have := rowLen_pos a
          refine ⟨fun e' => by rw [e'] at hl; simp at hl; omega, fun x hx => ?_⟩
          unfold rowOf at hx
          rcases List.mem_append.1 hx with g | g
          · exact hI w (by simp) x (List.mem_of_mem_take g)
          · rw [(List.mem_replicate.1 g).2]; exact I64_zero
        · exact ih ins (fun w' hw' => hI w' (List.mem_cons_of_mem _ hw')) r e
def repRow (h : V) (a : Addr) (l : List Int) : Prop := ∃ s, cellq h a = some (sV s) ∧ isInts h s l
theorem mono_row : Mono repRow := fun _ _ _ _ l ⟨s, h1, h2⟩ => ⟨s, cellq_le l h1, h2.le mono_int l⟩
abbrev isRows := isSl repRow 1

theorem c_Start {h : V} {p : ProgD} {sa sf si : Sl} {ins : List (List Int)} {R : Value → V → Prop} (ha : isArrs h sa p.arrays) (hi : isRows h si ins) (hn : p.arrays.length ≤ 1024) (hni : ins.length ≤ 1048576)
    (hR : ∀ (ms : Sl) (rows : List Sl) (h' : V), Le h h' → OwnS h h' ms 45 1 (rows.map sV) → rows.length = p.arrays.length → (∀ (k : Nat) s l, rows[k]? = some s → (startM p.arrays ins)[k]? = some l → OwnS h h' s 2 1 (l.map (Value.int .i64))) →
      (∀ (i j : Nat) s t, i ≠ j → rows[i]? = some s → rows[j]? = some t → neB s t) → R (sV ms) h') : ACalls Try.prog 19 [.agg ⟨[sV sa, sV sf, iV p.main]⟩, sV si] h R := by
  refine S19_ok _ _ _ _ _ _ (New_box fun r2 h1 hr2 l1 b2 => ⟨sa, b2.cell rfl, ?_⟩)
  refine Lp_count p.arrays.length (fun k st hh => st.2 = (((cntO (p.arrays.take k) : Nat) : Int), (k : Int), ()) ∧ Le h hh ∧ ∃ rows : List Sl, OwnS h hh st.1 45 1 (rows.map sV) ∧ rows.length = k ∧
      (∀ (j : Nat) s l, rows[j]? = some s → (startM (p.arrays.take k) ins)[j]? = some l → OwnS h hh s 2 1 (l.map (Value.int .i64))) ∧ (∀ (i j : Nat) s t, i ≠ j → rows[i]? = some s → rows[j]? = some t → neB s t))
    ⟨rfl, l1, [], OwnS_nil _ _ _ _, rfl, fun j s l hs => by simp at hs, fun i j s t _ hs => by simp at hs⟩ ?_
  rintro k ⟨so, n, kk, u⟩ h2 K hk ⟨hst, l2, rows, oo, rl, orow, rnd⟩ hK
  obtain ⟨rfl, rfl, -⟩ : n = ((cntO (p.arrays.take k) : Nat) : Int) ∧ kk = (k : Int) ∧ True := by
    have hst : (n, kk, u) = _ := hst
    simp only [Prod.mk.injEq] at hst
    exact ⟨hst.1, hst.2.1, trivial⟩
  refine cond_dec (fun hlt => ?_) (fun hge => ?_)
  · have hk' : k < p.arrays.length := by have := ha.len; simp only at hlt; omega
    have hcl : cntO (p.arrays.take k) ≤ k := by
      unfold cntO
      refine Nat.le_trans (List.length_filter_le _ _) ?_
      rw [List.length_take]; omega
    refine elem_arr ha l2 hk' rfl rfl fun r8 h4 l4 l4' hr8 b8 => ⟨_, b8.cell rfl, ?_⟩
    have hsz : (if (if 4096 < (p.arrays[k]).size then 4096 else (p.arrays[k]).size) > 1 then (if 4096 < (p.arrays[k]).size then 4096 else (p.arrays[k]).size) else 1) = ((rowLen p.arrays[k] : Nat) : Int) := by
      unfold rowLen
      repeat' split
      all_goals omega
    have hrp := rowLen_pos p.arrays[k]
    show MkSl h4 (if (if 4096 < (p.arrays[k]).size then 4096 else (p.arrays[k]).size) > 1 then (if 4096 < (p.arrays[k]).size then 4096 else (p.arrays[k]).size) else 1) (if (if 4096 < (p.arrays[k]).size then 4096 else (p.arrays[k]).size) > 1 then (if 4096 < (p.arrays[k]).size then 4096 else (p.arrays[k]).size) else 1) [iV 0] 2 8 _
    rw [hsz]
    refine MkSl_own (by omega) (by omega) fun s21 h5 l5 o21 n21 f21 _ => ⟨_, (b8.le l5).cell rfl, ?_⟩
    have htake : p.arrays.take (k + 1) = p.arrays.take k ++ [p.arrays[k]] := List.take_succ_eq_append_getElem hk'
    have oo5 := oo.le (l4'.trans l5)
    -- one row more is laid to the others
    have app : ∀ {hh : V} {n' : Int} {l : List Int}, n' = ((cntO (p.arrays.take (k + 1)) : Nat) : Int) → rowAt ins (p.arrays.take k) p.arrays[k] = l → Le h hh → OwnS h4 hh s21 2 1 (l.map (Value.int .i64)) → OwnS h hh so 45 1 (rows.map sV) →
        (∀ (j : Nat) s l, rows[j]? = some s → (startM (p.arrays.take k) ins)[j]? = some l → OwnS h hh s 2 1 (l.map (Value.int .i64))) →
        New hh (.cells ⟨[sV s21]⟩ 45) fun r39 h7 => App h7 so ⟨some ⟨r39, 0, none⟩, 1, 1⟩ 45 1 24 [.slice none 0 0] fun s40 h8 => Wk h8 fun h9 => K (s40, n', IntKind.wrap .i64 ((k : Int) + 1), ()) h9 := by
      intro hh n' l hn' hl lhh os oso orow'
      refine New_box fun r39 h7 hr39 l7 b39 => ?_
      have nso := oso.1
      simp only [List.length_map, Nat.mul_one] at nso
      refine App_one (lhh.trans l7) (oso.le l7) b39 rfl (by omega) (by omega) fun s' h8 l8 o8 n8 f8 d8 => ?_
      have keep : ∀ {h0' : V} {s : Sl} {cs : List Value}, OwnS h0' h7 s 2 1 cs → OwnS h0' h8 s 2 1 cs := fun {h0' s cs} o => o.frame fun a ob ha' hob => by
        rw [f8 _ (fun a2 ha2 e => by
          obtain ⟨_, arr, hh2⟩ := (oso.le l7).blk ha2
          obtain ⟨_, arr2, hh3⟩ := o.blk ha'
          rw [← e, hh3] at hh2; cases hh2) (by rw [hob]; simp)]
        exact hob
      have oS : OwnS h h8 s21 2 1 (l.map (Value.int .i64)) := (keep (os.le l7)).base (l2.trans l4')
      refine Wk_self (hK _ _ hk' ⟨by rw [hn', wnat hk' (by omega)], l8, rows ++ [s21], by simpa using o8, by simp [rl], fun j s l' hs hl' => ?_, fun i j s t hij hs ht => ?_⟩)
      · rw [htake, startM_snoc] at hl'
        have hsl : (startM (p.arrays.take k) ins).length = k := by rw [startM_len, List.length_take]; omega
        rcases Nat.lt_or_ge j k with g | g
        · rw [List.getElem?_append_left (by omega)] at hs hl'
          exact keep ((orow' j s l' hs hl').le l7)
        · rw [List.getElem?_append_right (by omega)] at hs hl'
          have e : j = k := by have := (List.getElem?_eq_some_iff.1 hs).1; simp at this; omega
          subst e
          rw [rl] at hs
          rw [hsl] at hl'
          simp at hs hl'
          subst hs hl'
          rw [hl]; exact oS
      · have new : ∀ (i : Nat) s, i < k → rows[i]? = some s → neB s s21 := fun i s hi hs => by
          have hsl : i < (startM (p.arrays.take k) ins).length := by rw [startM_len, List.length_take]; omega
          exact (((orow i s _ hs (List.getElem?_eq_getElem hsl)).le l4').ne os)
        have cases' : ∀ (i : Nat) s, (rows ++ [s21])[i]? = some s → (i < k ∧ rows[i]? = some s) ∨ (i = k ∧ s = s21) := fun i s hs => by
          rcases Nat.lt_or_ge i k with g | g
          · rw [List.getElem?_append_left (by omega)] at hs; exact .inl ⟨g, hs⟩
          · rw [List.getElem?_append_right (by omega)] at hs
            have e : i = k := by have := (List.getElem?_eq_some_iff.1 hs).1; simp at this; omega
            subst e
            rw [rl] at hs; simp at hs
            exact .inr ⟨rfl, hs.symm⟩
        rcases cases' i s hs with ⟨g1, g2⟩ | ⟨g1, g2⟩ <;> rcases cases' j t ht with ⟨g3, g4⟩ | ⟨g3, g4⟩
        · exact rnd i j s t hij g2 g4
        · rw [g4]; exact new i s g1 g2
        · rw [g2]; exact (new j t g3 g4).symm
        · omega
    have orow5 : ∀ (j : Nat) s l, rows[j]? = some s → (startM (p.arrays.take k) ins)[j]? = some l → OwnS h h5 s 2 1 (l.map (Value.int .i64)) := fun j s l hs hl => (orow j s l hs hl).le (l4'.trans l5)
    have lh5 := l4.trans l5
    have hcnt : cntO (p.arrays.take (k + 1)) = cntO (p.arrays.take k) + (if (p.arrays[k]).hold ≠ 0 then 1 else 0) := by
      unfold cntO
      rw [htake, List.filter_append, List.length_append]
      congr 1
      by_cases g : (p.arrays[k]).hold = 0 <;> simp [g]
    have oz : OwnS h4 h5 s21 2 1 ((List.replicate (rowLen p.arrays[k]) (0 : Int)).map (Value.int .i64)) := by rw [List.map_replicate]; exact o21
    refine cond_nei (fun (g : (p.arrays[k]).hold ≠ 0) => ?_) (fun (g : (p.arrays[k]).hold = 0) => ?_)
    · rw [if_pos g] at hcnt
      have hw : IntKind.wrap .i64 (((cntO (p.arrays.take k) : Nat) : Int) + 1) = ((cntO (p.arrays.take (k + 1)) : Nat) : Int) := by rw [hcnt, w64 (by omega) (by omega)]; simp
      refine cond_dec (fun hlt2 => ?_) (fun hge2 => ?_)
      · have hc : cntO (p.arrays.take k) < ins.length := by have := hi.len; simp only at hlt2; omega
        refine hi.ixn hc fun a ⟨x33, hx, hxi⟩ => ⟨x33, cellq_le lh5 hx, ?_⟩
        refine Cpy_own o21 l5 (hxi.le mono_int lh5) fun m h6 l6 o6 f6 => ?_
        have keep6 : ∀ {h0' : V} {s : Sl} {T : TypeId} {cs : List Value}, OwnS h0' h4 s T 1 cs → OwnS h0' h6 s T 1 cs := fun {h0' s T cs} o => (o.le l5).off (o.ne o21) f6
        refine app (l := rowOf (rowLen p.arrays[k]) ins[cntO (p.arrays.take k)]) hw ?_ (fun b o hb => by
            rw [f6 b fun a2 ha2 e => by
              have := (o21.blk ha2).1
              rw [← e, l4 _ _ hb] at this; cases this]
            exact lh5 _ _ hb) o6 (keep6 (oo.le l4')) fun j s l hs hl => keep6 ((orow j s l hs hl).le l4')
        unfold rowAt
        rw [if_neg g, List.getElem?_eq_getElem hc]
      · have hc : ¬ cntO (p.arrays.take k) < ins.length := by have := hi.len; simp only at hge2; omega
        refine app hw ?_ lh5 oz oo5 orow5
        unfold rowAt
        rw [if_neg g, List.getElem?_eq_none (by omega)]
    · rw [if_neg (fun x => x g)] at hcnt
      refine app (by rw [hcnt]; simp) ?_ lh5 oz oo5 orow5
      unfold rowAt
      rw [if_pos g]
  · have : k = p.arrays.length := by have := ha.len; simp only at hge; omega
    subst this
    rw [List.take_of_length_le (Nat.le_refl _)] at orow
    exact Wk_self (hR so rows h2 l2 oo rl orow rnd)
end Go.Proofs.Ytapdnglpchejlaa

/- Contracts of package sim: Run. -/
namespace Go.Proofs.Ytapdnglpchejlaa
open Go Go.VL

theorem few_B {p : ProgD} (few : FewOk p) : ∀ f ∈ p.funcs, fewB f.blocks := fun f hf => ⟨by have := (few.all f hf).blocks; omega, fun b hb => by have := ((few.all f hf).all b hb).params; have := ((few.all f hf).all b hb).ins; omega⟩
theorem addOwn {h h' : V} {s : Sl} {T : TypeId} {sz : Nat} {cs : List Value} (l : Le h h') (o : OwnS h h' s T sz cs) : ∃ hB, Le h hB ∧ Le hB h' ∧ OwnS h hB s T sz cs ∧ ∀ b, hB b ≠ none → h b ≠ none ∨ ∃ a, s.a = some a ∧ b = a.block := by
  have o' := o
  obtain ⟨e1, e2, e3, e4⟩ := o
  rcases e4 with ⟨ha, hc⟩ | ⟨b, off, arr, ha, hr0, hr, hsz, ht⟩
  · exact ⟨h, Le.refl _, l, ⟨e1, e2, e3, .inl ⟨ha, hc⟩⟩, fun b hb => .inl hb⟩
  · refine ⟨h.upd b (.cells arr T (0, 0)), le_upd hr0 _, fun q x hq => ?_, ⟨e1, e2, e3, .inr ⟨b, off, arr, ha, hr0, upd_self _ _ _, hsz, ht⟩⟩, fun q hq => ?_⟩
    · by_cases e : q = b
      · subst e; rw [upd_self] at hq; cases hq; exact hr
      · rw [upd_ne e] at hq; exact l _ _ hq
    · by_cases e : q = b
      · exact .inr ⟨_, ha, e⟩
      · rw [upd_ne e] at hq; exact .inl hq
theorem runS_fin {p : ProgD} {S : MS} (h : S.fin = true) : ∀ n, runS p n S = some S
  | 0 => by unfold runS; rw [if_pos h]
  | n + 1 => by unfold runS; rw [if_pos h]
theorem runS_zero {p : ProgD} {S : MS} (h : S.fin = false) : runS p 0 S = none := by unfold runS; rw [if_neg (by rw [h]; simp)]
theorem runS_succ {p : ProgD} {S : MS} {n : Nat} {rest : List FrD} {f : FrD} (h : S.fin = false) (hS : S.fs = rest ++ [f]) : runS p (n + 1) S = (stepS p { S with steps := S.steps + 1 } rest f).bind fun S' => runS p n S' := by
  conv => lhs; unfold runS
  rw [if_neg (by rw [h]; simp), topOf_some.2 hS]
  simp only
  cases stepS p { S with steps := S.steps + 1 } rest f <;> rfl
def zeroRes : List Value := [iV 0, iV 0, .slice none 0 0, iV 0, iV 0, .slice none 0 0]
def resV (S : MS) (lk ms : Sl) : List Value := [iV S.val, iV S.trap, sV lk, iV S.steps, iV S.deep, sV ms]
abbrev isLeaks := isSl (repEnc encLk) 3

set_option maxRecDepth 100000 in
theorem c_Run {h : V} {p : ProgD} {sa sf si : Sl} {ins : List (List Int)} {fuel : Int} {R : Value → V → Prop} (ha : isArrs h sa p.arrays) (hf : isFuncs h sf p.funcs) (hi : isRows h si ins) (few : FewOk p) (nums : NumsOk p) (hI : ∀ w ∈ ins, ∀ x ∈ w, I64 x) (hni : ins.length ≤ 1048576) (hfuel : fuel ≤ 2097152)
    (hR1 : ¬ CheckOk p → ∀ h', Le h h' → R (.tuple ⟨[.agg ⟨zeroRes⟩, iV 40]⟩) h')
    (hR2 : CheckOk p → runP p ins fuel = none → ∀ h', Le h h' → R (.tuple ⟨[.agg ⟨zeroRes⟩, iV 41]⟩) h')
    (hR3 : CheckOk p → ∀ S h' lk ms, runP p ins fuel = some S → Le h h' → isLeaks h' lk S.leaks → isRows h' ms S.mem → R (.tuple ⟨[.agg ⟨resV S lk ms⟩, iV 0]⟩) h') :
    ACalls Try.prog 16 [.agg ⟨[sV sa, sV sf, iV p.main]⟩, sV si, iV fuel] h R := by
  refine S16_ok _ _ _ _ _ _ _ (New_box fun r3 h1 hr3 l1 b3 => New_box fun r6 h2 hr6 l2 b6 => ⟨(sa, sf, p.main, ()), (b3.le l2).cells, ?_⟩)
  have l02 := l1.trans l2
  have hr6' := l1.nil hr6
  refine c_Check (ha.le mono_arr l02) (hf.le mono_func l02) (few_B few) fun n hn0 hn => ⟨n, rfl, cond_nei (fun (hne : n ≠ 0) => ?_) (fun (heq : n = 0) => ?_)⟩
  · refine StL_box (h := h1) b6 rfl l2 hr6 fun h4 l4 b4 f4 => ⟨(0, 0, ⟨none, 0, 0⟩, 0, 0, ⟨none, 0, 0⟩, ()), b4.cells, Wk_self (hR1 (fun ok => hne (hn.2 ok)) h4 (l1.trans l4))⟩
  have ok := hn.1 heq
  refine ⟨(sa, sf, p.main, ()), (b3.le l2).cells, (sa, sf, p.main, ()), (b3.le l2).cells, ?_⟩
  have na := few.arrays
  refine c_Start (ha.le mono_arr l02) (hi.le mono_row l02) (by omega) hni fun ms rows h6 l6 oms rl orow rnd => ⟨ms, rfl, l6, New_box fun r19 h7 hr19 l7 b19 => ⟨p.main, ((b3.le l2).le (l6.trans l7)).cell rfl, ?_⟩⟩
  obtain ⟨hB, l2B, lB6, omB, hBn⟩ := addOwn l6 oms
  have lB7 := lB6.trans l7
  have l0B := l02.trans l2B
  have c : SimC hB p sa sf ms rows := ⟨ha.le mono_arr l0B, hf.le mono_func l0B, OwnS.sl (fun _ _ _ h => h) omB⟩
  have hr19B : hB r19 = none := lB6.nil hr19
  have k7 : SimW hB h7 p r19 sa sf ⟨none, 0, 0⟩ ⟨none, 0, 0⟩ ms [] rows (startS p (startM p.arrays ins)) := by
    refine ⟨lB7, hr19B, b19, OwnS_nil _ _ _ _, rfl, fun k x y hx => by simp [startS] at hx, fun k y hy => by simp at hy, List.nodup_nil, OwnS_nil _ _ _ _, by rw [rl]; show _ = (startM p.arrays ins).length; rw [startM_len], fun k s l hs hl => ((orow k s l hs hl).rebaseN fun a ha' => ?_).le l7, rnd⟩
    cases hx : hB a.block with
    | none => rfl
    | some o =>
      rcases hBn a.block (by rw [hx]; simp) with e | ⟨a2, ha2, e⟩
      · exact absurd ((orow k s l hs hl).blk ha').1 e
      · obtain ⟨_, arr, hh⟩ := oms.blk ha2
        obtain ⟨_, arr2, hh2⟩ := (orow k s l hs hl).blk ha'
        rw [e, hh] at hh2; cases hh2
  have ok0 : MsOk p (startS p (startM p.arrays ins)) := ⟨fun f hf => by simp [startS] at hf, startM_len _ _, startM_rows ins hI _, by simp [startS]⟩
  have hmp : (fnAt p p.main).params = [] := by
    have h1 := ok.main1
    rw [fnAt_eq h1]
    exact ok.main2 _ (List.getElem?_eq_getElem h1)
  have hent : ∃ S1, enterS p (startS p (startM p.arrays ins)) p.main [] 0 = some S1 := ⟨_, by unfold enterS; rw [if_neg (by simp [startS])]⟩
  obtain ⟨S1, hent⟩ := hent
  have hrun : runP p ins fuel = runS p fuel.toNat S1 := by unfold runP; rw [hent]; rfl
  have f1 := enter_facts ok ok0 ok.main0 ok.main1 (by simp) hent
  have hS1 : S1.fs ≠ [] ∧ S1.steps = 0 ∧ S1.leaks = [] := by
    unfold enterS at hent
    rw [if_neg (by simp [startS])] at hent
    cases hent
    exact ⟨by simp [startS], rfl, rfl⟩
  refine c_enter (fn := p.main) (dst := 0) (asl := ⟨none, 0, 0⟩) (args := []) k7 c (by simp [startS]) ok.main0 ok.main1 (isSl_nil _ _ _) (by rw [hmp]) (fun e => by rw [hent] at e; cases e) fun h8 fs8 ys8 S8 e8 k8 => ⟨true, rfl, ?_⟩
  rw [hent] at e8
  cases e8
  have b6B : hB r6 = some _ := l2B _ _ b6
  -- what comes back
  have back : ∀ {hh : V} (vs : List Value) {cs : List Value} {K : V → Prop}, Le hB hh → vs.length = 6 → (∀ h', Box h' r6 vs 33 → Le h h' → (∀ b, b ≠ r6 → h' b = hh b) → K h') → StL hh ⟨r6, 0, none⟩ 0 vs K := fun {hh} vs {cs K} l hvs hK => by
    refine StL_box (h := V.ex hh ⟨some ⟨r6, 0, none⟩, 1, 1⟩) (show Box hh r6 zeroRes 33 from l _ _ b6B) (by rw [hvs]; rfl) (V.ex_le _ _) ?_ fun h24 l24 b24 f24 => hK h24 b24 (fun b o hb => ?_) f24
    · cases hx : V.ex hh ⟨some ⟨r6, 0, none⟩, 1, 1⟩ r6 with
      | none => rfl
      | some o => exact absurd rfl (V.ex_out hx _ rfl)
    · rw [f24 b (fun e => by rw [e, hr6'] at hb; cases hb)]
      exact l _ _ (l0B _ _ hb)
  refine Lp_inv (fun n st hh => ∃ fs lk ys S, SimW hB hh p r19 sa sf fs lk ms ys rows S ∧ MsOk p S ∧ (S.fs = [] → S.fin = true) ∧ (S.leaks.length : Int) ≤ S.steps ∧ S.steps ≤ (fuel.toNat : Nat) ∧ n = (fuel - S.steps).toNat ∧ runS p n S = runP p ins fuel)
    (n := fuel.toNat) ⟨fs8, ⟨none, 0, 0⟩, ys8, S1, k8, f1.ok, fun e => absurd e hS1.1, by rw [hS1.2.2, hS1.2.1]; simp, by rw [hS1.2.1]; omega, by rw [hS1.2.1]; simp, hrun.symm⟩ ?_
  rintro n _ hh K ⟨fs, lk, ys, S, k, okm, live, hlk, hst, hn', hr⟩ hK
  refine ⟨S.fin, k.at rfl, cond_not (fun hfin => ?_) (fun hfin => ?_)⟩
  · refine ⟨S.steps, by rw [Addr.add_add]; exact k.at rfl, cond_dec (fun (g : S.steps ≥ fuel) => ?_) (fun (g : ¬ S.steps ≥ fuel) => ?_)⟩
    · have hn0 : n = 0 := by omega
      subst hn0
      rw [runS_zero hfin] at hr
      refine back (cs := []) zeroRes k.le rfl fun h' b' l' f' => ⟨(0, 0, ⟨none, 0, 0⟩, 0, 0, ⟨none, 0, 0⟩, ()), b'.cells, Wk_self (hR2 ok hr.symm h' l')⟩
    · obtain ⟨m, rfl⟩ : ∃ m, n = m + 1 := ⟨n - 1, by omega⟩
      refine ⟨S.steps, by rw [Addr.add_add]; exact k.at rfl, ?_⟩
      show StL hh (Addr.add (Addr.add ⟨r19, 0, none⟩ 4) 3) 0 [iV (IntKind.wrap .i64 (S.steps + 1))] _
      have hsteps : 0 ≤ S.steps := by omega
      rw [Addr.add_add, w64 (by omega) (by omega)]
      refine k.sc (i := 7) (S' := { S with steps := S.steps + 1 }) (by omega) rfl rfl rfl rfl fun h12 k12 _ => ?_
      obtain ⟨rest, f, hS⟩ : ∃ rest f, S.fs = rest ++ [f] := by
        rcases List.eq_nil_or_concat S.fs with e | ⟨l', x, e⟩
        · have := live e; rw [hfin] at this; cases this
        · exact ⟨l', x, by rw [e, List.concat_eq_append]⟩
      have okm1 : MsOk p { S with steps := S.steps + 1 } := ⟨okm.fr, okm.mem, okm.rows, okm.len⟩
      have hrs := runS_succ (p := p) (n := m) hfin hS
      refine c_step k12 c hS ok few okm1 (by show (S.leaks.length + 1) * 24 ≤ _; omega) fun h' fs' lk' ys' b lh' hb1 hb2 => ⟨b, rfl, ?_⟩
      cases b with
      | true =>
        obtain ⟨S', e1, k'⟩ := hb1 rfl
        have ff := step_facts ok nums okm1 hS e1
        refine cond_not (fun e => by cases e) (fun _ => Wk_self (hK m _ _ (by omega) ⟨fs', lk', ys', S', k', ff.ok, ff.live, ?_, ?_, ?_, ?_⟩))
        · have h1 := ff.leaks
          have h2 := ff.steps
          have h1 : S'.leaks.length ≤ S.leaks.length + 1 := h1
          have h2 : S'.steps = S.steps + 1 := h2
          omega
        · have h2 : S'.steps = S.steps + 1 := ff.steps
          omega
        · have h2 : S'.steps = S.steps + 1 := ff.steps
          omega
        · rw [← hr, hrs, e1]; rfl
      | false =>
        have e1 := hb2 rfl
        refine cond_not (fun _ => ?_) (fun e => by cases e)
        have hn1 : runP p ins fuel = none := by rw [← hr, hrs, e1]; rfl
        refine back (cs := []) zeroRes lh' rfl fun h' b' l' f' => ⟨(0, 0, ⟨none, 0, 0⟩, 0, 0, ⟨none, 0, 0⟩, ()), b'.cells, Wk_self (hR2 ok hn1 h' l')⟩
  · have hfin : S.fin = true := hfin
    rw [runS_fin hfin] at hr
    refine ⟨(S.val, S.trap, lk, S.steps, S.deep, ms, ()), Box.from (vs := resV S lk ms) k.box 4 (fun j v hv => ?_), ?_⟩
    · match j, hv with
      | 0, hv => exact hv
      | 1, hv => exact hv
      | 2, hv => exact hv
      | 3, hv => exact hv
      | 4, hv => exact hv
      | 5, hv => exact hv
    refine back (cs := []) (resV S lk ms) k.le rfl fun h' b' l' f' => ⟨(S.val, S.trap, lk, S.steps, S.deep, ms, ()), b'.cells, Wk_self (hR3 ok S h' lk ms hr.symm l' ?_ ?_)⟩
    · exact OwnS.slN encLk_len (by omega) (k.olk.offb (fun a ha' => k.olk.nbox b6B ha') f')
    · have om' : OwnS h2 h' ms 45 1 (rows.map sV) := (omB.le k.le).offb (fun a ha' => omB.nbox b6 ha') f'
      obtain ⟨c1, c2, c3, c4⟩ := (om'.sl (rep := repSl) fun _ _ _ h => h : isSl repSl 1 h' ms rows)
      refine ⟨by rw [c1]; exact k.rlen, c2, c3, fun i hi => ?_⟩
      have hir : i < rows.length := by rw [k.rlen]; exact hi
      obtain ⟨a, e1, e2⟩ := c4 i hir
      have oi := k.orow i _ _ (List.getElem?_eq_getElem hir) (List.getElem?_eq_getElem hi)
      exact ⟨a, e1, rows[i], e2, (oi.offb (fun a ha' => oi.nbox b6B ha') f').ints⟩
end Go.Proofs.Ytapdnglpchejlaa

/- A check of right programs that can be reckoned. -/
namespace Go.Proofs.Ytapdnglpchejlaa
open Go Go.VL

def den (l : List Int) : Int → Bool := fun v => l.contains v
structure KL where
  A : List (Option Nat)
  L : List (List Int)
def KL.st (k : KL) : KSt := ⟨k.A, k.L.map den⟩
theorem den_nil : den [] = fun _ => false := funext fun _ => rfl
theorem st_get (k : KL) (i : Nat) : k.st.S.getD i (fun _ => false) = den (k.L.getD i []) := by
  unfold KL.st
  simp only [List.getD_eq_getElem?_getD, List.getElem?_map]
  cases k.L[i]? with
  | none => rfl
  | some l => rfl
def meetL (k : KL) (n h2 : Nat) : KL × Bool := match k.A[n]? with
  | some (some h1) => (⟨k.A, k.L.set h1 ((k.L.getD h1 []).filter fun v => (k.L.getD h2 []).contains v)⟩, (k.L.getD h1 []).any fun v => !(k.L.getD h2 []).contains v)
  | some none => (⟨k.A.set n (some h2), k.L⟩, true)
  | none => (k, false)
theorem loses_den (a b : List Int) : loses (den a) (den b) = a.any fun v => !b.contains v := by
  rw [Bool.eq_iff_iff, loses_true]
  simp only [List.any_eq_true, den, List.contains_iff_mem, Bool.not_eq_true', ← Bool.not_eq_true]
theorem meet_eq (k : KL) (n h2 : Nat) : meetF k.st n h2 = ((meetL k n h2).1.st, (meetL k n h2).2) := by
  unfold meetF meetL
  show (match k.A[n]? with | some (some h1) => _ | some none => _ | none => _) = _
  cases hx : k.A[n]? with
  | none => rfl
  | some o =>
    cases o with
    | none => rfl
    | some h1 =>
      simp only [st_get, loses_den]
      congr 1
      unfold KL.st
      simp only [List.map_set]
      congr 2
      funext v
      simp only [den]
      rw [Bool.eq_iff_iff]
      simp [List.mem_filter]
def waysL (h2 : Nat) (s : KL × Bool) (w : EdgeD) : KL × Bool := ((meetL s.1 w.to.toNat h2).1, s.2 || (meetL s.1 w.to.toNat h2).2)
theorem ways_eq (h2 : Nat) : ∀ (l : List EdgeD) (s : KL × Bool), l.foldl (waysF h2) (s.1.st, s.2) = ((l.foldl (waysL h2) s).1.st, (l.foldl (waysL h2) s).2)
  | [], s => rfl
  | w :: l, s => by
    have : waysF h2 (s.1.st, s.2) w = ((waysL h2 s w).1.st, (waysL h2 s w).2) := by
      unfold waysF waysL
      simp only [meet_eq]
    rw [List.foldl_cons, List.foldl_cons, this]
    exact ways_eq h2 l (waysL h2 s w)
def goL (bk : BlockD) (h : Nat) (s : KL × Bool) : KL × Bool := bk.e.ways.foldl (waysL s.1.L.length) (⟨s.1.A, s.1.L ++ [s.1.L.getD h [] ++ bk.params ++ dsts bk]⟩, s.2)
theorem after_den (l : List Int) (bk : BlockD) : afterD (den l) bk = den (l ++ bk.params ++ dsts bk) := by
  funext v
  unfold afterD den
  rw [Bool.eq_iff_iff]
  simp [List.mem_append, or_assoc]
theorem go_eq (bk : BlockD) (h : Nat) (s : KL × Bool) : goF bk h (s.1.st, s.2) = ((goL bk h s).1.st, (goL bk h s).2) := by
  unfold goF goL
  have e : (⟨s.1.st.A, s.1.st.S ++ [afterD (s.1.st.S.getD h (fun _ => false)) bk]⟩ : KSt) = (⟨s.1.A, s.1.L ++ [s.1.L.getD h [] ++ bk.params ++ dsts bk]⟩ : KL).st := by
    rw [st_get, after_den]
    unfold KL.st
    simp
  have hl : s.1.st.S.length = s.1.L.length := by unfold KL.st; simp
  show bk.e.ways.foldl (waysF s.1.st.S.length) (⟨s.1.st.A, _⟩, s.2) = _
  rw [e, hl]
  exact ways_eq _ _ (⟨s.1.A, s.1.L ++ [s.1.L.getD h [] ++ bk.params ++ dsts bk]⟩, s.2)
def blockL (bs : List BlockD) (k : Nat) (s : KL × Bool) : KL × Bool :=
  match bs[k]? with
  | none => s
  | some bk => match s.1.A[k]? with
    | some (some h) => goL bk h s
    | some none => if k = 0 then goL bk s.1.L.length (⟨s.1.A.set 0 (some s.1.L.length), s.1.L ++ [[]]⟩, true) else s
    | none => s
theorem block_eq {bs : List BlockD} (hr : ∀ k, k < bs.length → Rch bs k) (k : Nat) (s : KL × Bool) : blockF bs k (s.1.st, s.2) = ((blockL bs k s).1.st, (blockL bs k s).2) := by
  unfold blockF blockL
  by_cases hk : k < bs.length
  · rw [if_pos (rchB_iff.2 (hr k hk)), List.getElem?_eq_getElem hk]
    simp only
    show (match s.1.A[k]? with | some (some h) => _ | some none => _ | none => _) = _
    cases hx : s.1.A[k]? with
    | none => rfl
    | some o =>
      cases o with
      | some h => exact go_eq _ _ s
      | none =>
        simp only
        by_cases h0 : k = 0
        · rw [if_pos h0, if_pos h0]
          have hl : s.1.st.S.length = s.1.L.length := by unfold KL.st; simp
          have e : (⟨s.1.st.A.set 0 (some s.1.st.S.length), s.1.st.S ++ [fun (_ : Int) => false]⟩ : KSt) = (⟨s.1.A.set 0 (some s.1.L.length), s.1.L ++ [[]]⟩ : KL).st := by
            rw [hl]
            unfold KL.st
            rw [List.map_append, List.map_cons, List.map_nil, den_nil]
          rw [e, hl]
          exact go_eq _ _ (⟨s.1.A.set 0 (some s.1.L.length), s.1.L ++ [[]]⟩, true)
        · rw [if_neg h0, if_neg h0]
  · rw [List.getElem?_eq_none (by omega)]
    by_cases h : rchB bs k = true
    · rw [if_pos h]
    · rw [if_neg h]
def roundL (bs : List BlockD) : Nat → KL → KL × Bool
  | 0, k => (k, false)
  | n + 1, k => blockL bs n (roundL bs n k)
theorem round_eq {bs : List BlockD} (hr : ∀ k, k < bs.length → Rch bs k) : ∀ (n : Nat) (k : KL), roundF bs n k.st = ((roundL bs n k).1.st, (roundL bs n k).2)
  | 0, k => rfl
  | n + 1, k => by
    unfold roundF roundL
    rw [round_eq hr n k]
    exact block_eq hr n (roundL bs n k)
def runL (bs : List BlockD) : Nat → KL → Option KL
  | 0, _ => none
  | n + 1, k => if (roundL bs bs.length k).2 = true then runL bs n (roundL bs bs.length k).1 else some (roundL bs bs.length k).1
theorem run_eq {bs : List BlockD} (hr : ∀ k, k < bs.length → Rch bs k) : ∀ (n : Nat) (k f : KL), runL bs n k = some f → KRun bs k.st f.st
  | 0, _, _, h => by simp [runL] at h
  | n + 1, k, f, h => by
    have e := round_eq hr bs.length k
    unfold runL at h
    split at h
    · rename_i ht
      refine KRun.go (by rw [e]; exact ht) ?_
      rw [e]
      exact run_eq hr n _ f h
    · rename_i ht
      have ht : (roundL bs bs.length k).2 = false := by simpa using ht
      have hk := KRun.stop (bs := bs) (st := k.st) (by rw [e]; exact ht)
      rw [e] at hk
      cases h
      exact hk
def atB (k : KL) (b : Nat) : Option (List Int) := match k.A[b]? with
  | some (some h) => some (k.L.getD h [])
  | _ => none
def usedL (bs : List BlockD) (k : KL) : Bool := (List.range bs.length).all fun b => match bs[b]?, atB k b with
  | some bk, some l => usedD (den l) bk
  | _, _ => true
def fixL (bs : List BlockD) (k : KL) : Bool := (atB k 0 == some []) && (List.range bs.length).all fun b => match bs[b]?, atB k b with
  | some bk, some l => bk.e.ways.all fun w => match atB k w.to.toNat with
    | some m => m.all fun v => afterD (den l) bk v
    | none => false
  | _, _ => true
def reachAll (bs : List BlockD) : Bool := (List.range bs.length).all fun k => k == 0 || (List.range k).any fun j => match bs[j]? with
  | some b => b.e.ways.any fun w => w.to == (k : Int)
  | none => false
theorem reach_of {bs : List BlockD} (h : reachAll bs = true) : ∀ k, k < bs.length → Rch bs k := by
  intro k
  induction k using Nat.strongRecOn with
  | _ k ih =>
    intro hk
    have h1 := List.all_eq_true.1 h k (List.mem_range.2 hk)
    by_cases h0 : k = 0
    · subst h0; exact .zero hk
    · have hb : (k == 0) = false := by simpa using h0
      rw [hb, Bool.false_or] at h1
      obtain ⟨j, hj, h2⟩ := List.any_eq_true.1 h1
      have hj := List.mem_range.1 hj
      have hjl : j < bs.length := by omega
      rw [List.getElem?_eq_getElem hjl] at h2
      obtain ⟨w, hw, h3⟩ := List.any_eq_true.1 h2
      have h3 : w.to = (k : Int) := by simpa using h3
      have := Rch.step (ih j hj hjl) (List.getElem?_eq_getElem hjl) hw (by omega) (by omega)
      rwa [h3] at this
theorem atB_some {k : KL} {b h : Nat} (e : k.A[b]? = some (some h)) : atB k b = some (k.L.getD h []) := by unfold atB; rw [e]
theorem known_of {bs : List BlockD} {n : Nat} {k : KL} (hr : ∀ k, k < bs.length → Rch bs k) (h1 : runL bs n ⟨List.replicate bs.length none, []⟩ = some k) (h2 : usedL bs k = true) (h3 : fixL bs k = true) (h4 : k.A.length = bs.length) : knownOk bs := by
  have used : ∀ (b : Nat) h bk, k.A[b]? = some (some h) → bs[b]? = some bk → usedD (den (k.L.getD h [])) bk = true := fun b h bk e1 e2 => by
    have hb : b < bs.length := (List.getElem?_eq_some_iff.1 e2).1
    have := List.all_eq_true.1 h2 b (List.mem_range.2 hb)
    rw [e2, atB_some e1] at this
    exact this
  unfold fixL at h3
  rw [Bool.and_eq_true] at h3
  refine ⟨⟨k.st, run_eq hr n _ _ h1, fun b h bk e1 e2 => by rw [st_get]; exact used b h bk e1 e2⟩, k.A, fun r => den (k.L.getD r []), h4, fun r e v => ?_, fun b bk _ e2 => ⟨fun e => ?_, fun r e1 w hw => ?_⟩, fun b r bk e1 e2 => used b r bk e1 e2⟩
  · have h0 : atB k 0 = some [] := by simpa using h3.1
    rw [atB_some e] at h0
    have h0 := Option.some.inj h0
    show den (k.L.getD r []) v = false
    rw [h0]; rfl
  · have h0 : atB k 0 = some [] := by simpa using h3.1
    unfold atB at h0
    split at h0
    · rename_i r hr'
      exact ⟨r, hr'⟩
    · cases h0
  · have hb : b < bs.length := (List.getElem?_eq_some_iff.1 e2).1
    have h5 := List.all_eq_true.1 h3.2 b (List.mem_range.2 hb)
    rw [e2, atB_some e1] at h5
    have h6 := List.all_eq_true.1 h5 w hw
    cases hm : k.A[w.to.toNat]? with
    | none => unfold atB at h6; rw [hm] at h6; cases h6
    | some o =>
      cases o with
      | none => unfold atB at h6; rw [hm] at h6; cases h6
      | some r1 =>
        rw [atB_some hm] at h6
        refine ⟨r1, hm, fun v hv => ?_⟩
        exact List.all_eq_true.1 h6 v (by simpa [den] using hv)
def chkF (p : ProgD) (f : FuncD) : Bool := !f.blocks.isEmpty && decide (f.params.length ≤ 6) && onceD f.blocks && (f.blocks.all fun b => endsD f.blocks b.e && b.ins.all (rightD p)) && reachAll f.blocks &&
  match runL f.blocks 40 ⟨List.replicate f.blocks.length none, []⟩ with
  | some k => usedL f.blocks k && fixL f.blocks k && k.A.length == f.blocks.length
  | none => false
def chkP (p : ProgD) : Bool := (p.arrays.all fun a => decide (0 ≤ a.size) && decide (a.size ≤ 4096) && decide (0 ≤ a.hold) && decide (a.hold ≤ 2)) && decide (0 ≤ p.main) && decide (p.main.toNat < p.funcs.length) && (match p.funcs[p.main.toNat]? with
  | some f => f.params.isEmpty
  | none => true) && p.funcs.all (chkF p)
theorem chk_of {p : ProgD} (h : chkP p = true) : CheckOk p := by
  unfold chkP at h
  simp only [Bool.and_eq_true, List.all_eq_true, decide_eq_true_eq] at h
  obtain ⟨⟨⟨⟨h1, h2⟩, h3⟩, h4⟩, h5⟩ := h
  refine ⟨fun a ha => ?_, h2, h3, fun f hf => ?_, fun f hf => ?_⟩
  · obtain ⟨⟨⟨a1, a2⟩, a3⟩, a4⟩ := h1 a ha
    exact ⟨a1, a2, a3, a4⟩
  · rw [hf] at h4
    simpa using h4
  · have h6 := h5 f hf
    unfold chkF at h6
    simp only [Bool.and_eq_true, List.all_eq_true, decide_eq_true_eq] at h6
    obtain ⟨⟨⟨⟨⟨g1, g2⟩, g3⟩, g4⟩, g5⟩, g6⟩ := h6
    refine ⟨fun e => by rw [e] at g1; simp at g1, g2, g3, fun b hb => ⟨(g4 b hb).1, (g4 b hb).2⟩, ?_⟩
    cases hr : runL f.blocks 40 ⟨List.replicate f.blocks.length none, []⟩ with
    | none => rw [hr] at g6; cases g6
    | some k =>
      rw [hr] at g6
      simp only [Bool.and_eq_true] at g6
      exact known_of (reach_of g5) hr g6.1.1 g6.1.2 (by simpa using g6.2)
def fewBc (b : BlockD) : Bool := decide (b.params.length ≤ 20) && decide (b.ins.length ≤ 40) && decide (b.e.ways.length ≤ 5) && (b.ins.all fun i => decide (i.args.length ≤ 20)) && b.e.ways.all fun w => decide (w.args.length ≤ 20)
def fewPc (p : ProgD) : Bool := decide (p.arrays.length ≤ 10) && decide (p.funcs.length ≤ 5) && p.funcs.all fun f => decide (f.blocks.length ≤ 30) && decide (f.name.size ≤ 40) && f.blocks.all fewBc
theorem few_of {p : ProgD} (h : fewPc p = true) : FewOk p := by
  unfold fewPc at h
  simp only [Bool.and_eq_true, List.all_eq_true, decide_eq_true_eq] at h
  refine ⟨h.1.1, h.1.2, fun f hf => ?_⟩
  obtain ⟨⟨h1, h2⟩, h3⟩ := h.2 f hf
  refine ⟨h1, h2, fun b hb => ?_⟩
  have h4 := h3 b hb
  unfold fewBc at h4
  simp only [Bool.and_eq_true, List.all_eq_true, decide_eq_true_eq] at h4
  exact ⟨h4.1.1.1.1, h4.1.1.1.2, h4.1.1.2, h4.1.2, h4.2⟩
end Go.Proofs.Ytapdnglpchejlaa

/- What functions of the program ask of a view of memory: printed by shal.py. -/
namespace Go.Proofs.Ytapdnglpchejlaa
open Go Go.VL
set_option maxRecDepth 100000
/- (palings/ssa.Prog).Clone -/
def an54 : An := (.two .nil (.two .nil (.two .nil (.two (.two .nil (.one (.loop [(15, (.one (.int .i64)))] (.two .nil (.two (.two .nil .nil) (.two (.one (.two .nil (.perm [0, 1, 2, 3, 4, 5, 6, 7, 8, 9, 10] [8]))) .nil)))))) (.two .nil .nil)))))
def S54 (p0_0 : Sl) (p0_1 : Sl) (p0_2 : Int) (h : V) (R : Value → V → Prop) : Prop :=
  New h (.cells #[(.slice p0_0.a p0_0.n p0_0.c), (.slice p0_1.a p0_1.n p0_1.c), (.int .i64 p0_2)] 25) fun r1 h1 =>
  New h1 (.cells #[(.slice none 0 0), (.slice none 0 0), (.int .i64 ((0 : Int)))] 25) fun r2 h2 =>
  Ld h2 (Addr.add (⟨r1, 0, none⟩) 0) .sl fun (x5 : Sl) =>
  CallK Try.prog 79 [(.slice x5.a x5.n x5.c)] h2 (.un (.one .sl)) fun (x6 : Sl) h3 =>
  StL h3 (Addr.add (⟨r1, 0, none⟩) 0) 0 [(.slice x6.a x6.n x6.c)] fun h4 =>
  Ld h4 (Addr.add (⟨r1, 0, none⟩) 1) .sl fun (x9 : Sl) =>
  CallK Try.prog 80 [(.slice x9.a x9.n x9.c)] h4 (.un (.one .sl)) fun (x10 : Sl) h5 =>
  StL h5 (Addr.add (⟨r1, 0, none⟩) 1) 0 [(.slice x10.a x10.n x10.c)] fun h6 =>
  Ld h6 (Addr.add (⟨r1, 0, none⟩) 1) .sl fun (x13 : Sl) =>
  Lp (σ := (Int × Unit)) (fun K s h7 =>
  cond (decide (s.1 < (((x13.n : Nat) : Int))))
  (Ld h7 (Addr.add (⟨r1, 0, none⟩) 1) .sl fun (x19 : Sl) =>
  Ld h7 (Addr.add (⟨r1, 0, none⟩) 1) .sl fun (x22 : Sl) =>
  Ix x22 s.1 2 fun a24 =>
  LdA h7 a24 [.str, .sl] fun (x25 : ((ByteArray) × (Sl) × Unit)) =>
  CallK Try.prog 55 [(.agg ⟨[(.string x25.1), (.slice x25.2.1.a x25.2.1.n x25.2.1.c)]⟩)] h7 (.un (.agg [.str, .sl])) fun (x26 : ((ByteArray) × (Sl) × Unit)) h8 =>
  Le h7 h8 ∧
  Ix x19 s.1 2 fun a27 =>
  StL h8 a27 0 [(.string x26.1), (.slice x26.2.1.a x26.2.1.n x26.2.1.c)] fun h9 =>
  Wk h9 fun h10 => K (IntKind.wrap .i64 (s.1 + ((1 : Int))), ()) h10)
  (LdA h7 (⟨r1, 0, none⟩) [.sl, .sl, (.int .i64)] fun (x29 : ((Sl) × (Sl) × (Int) × Unit)) =>
  StL h7 (⟨r2, 0, none⟩) 0 [(.slice x29.1.a x29.1.n x29.1.c), (.slice x29.2.1.a x29.2.1.n x29.2.1.c), (.int .i64 x29.2.2.1)] fun h11 =>
  LdA h11 (⟨r2, 0, none⟩) [.sl, .sl, (.int .i64)] fun (y : ((Sl) × (Sl) × (Int) × Unit)) =>
  Wk h11 fun h12 => R (.agg ⟨[(.slice y.1.a y.1.n y.1.c), (.slice y.2.1.a y.2.1.n y.2.1.c), (.int .i64 y.2.2.1)]⟩) h12))
  ((0 : Int), ()) h6
theorem S54_eq (p0_0 : Sl) (p0_1 : Sl) (p0_2 : Int) (h : V) (R : Value → V → Prop) : ABody Try.prog an54 Try.f54 [(.agg ⟨[(.slice p0_0.a p0_0.n p0_0.c), (.slice p0_1.a p0_1.n p0_1.c), (.int .i64 p0_2)]⟩)] h R = S54 p0_0 p0_1 p0_2 h R := by kernel_rfl
theorem S54_ok (p0_0 : Sl) (p0_1 : Sl) (p0_2 : Int) (h : V) (R : Value → V → Prop) (hk : S54 p0_0 p0_1 p0_2 h R) : ACalls Try.prog 54 [(.agg ⟨[(.slice p0_0.a p0_0.n p0_0.c), (.slice p0_1.a p0_1.n p0_1.c), (.int .i64 p0_2)]⟩)] h R :=
  ABody_sound mixed Try.func54 Try.call54 (by kernel_rfl) (by kernel_rfl) (an := an54) (by rw [S54_eq]; exact hk)

/- (palings/ssa.Func).Clone -/
def an55 : An := (.two .nil (.two .nil (.two (.two .nil (.one (.loop [(14, (.one (.int .i64)))] (.two .nil (.two (.two .nil .nil) (.two (.one (.two .nil (.two (.perm [0, 1, 3, 4, 2, 6, 5, 7, 8, 9] [2]) (.two (.two .nil (.one (.loop [(30, (.one (.int .i64)))] (.two .nil (.two (.two .nil .nil) (.two (.one (.two .nil (.perm [0, 1, 2, 3, 4, 5, 6, 7, 8, 9, 10, 11, 12] [9]))) .nil)))))) (.two .nil (.two (.two .nil (.one (.loop [(56, (.one (.int .i64)))] (.two .nil (.two (.two .nil .nil) (.two (.one (.two .nil (.perm [0, 1, 2, 3, 4, 5, 6, 7, 8, 9, 10, 11, 12, 13, 14] [11]))) .nil)))))) .nil)))))) .nil)))))) (.two .nil .nil))))
def S55 (p0_0 : ByteArray) (p0_1 : Sl) (h : V) (R : Value → V → Prop) : Prop :=
  New h (.cells #[(.string p0_0), (.slice p0_1.a p0_1.n p0_1.c)] 63) fun r1 h1 =>
  New h1 (.cells #[(.string (⟨#[]⟩)), (.slice none 0 0)] 63) fun r2 h2 =>
  Ld h2 (Addr.add (⟨r1, 0, none⟩) 1) .sl fun (x8 : Sl) =>
  CallK Try.prog 81 [(.slice x8.a x8.n x8.c)] h2 (.un (.one .sl)) fun (x9 : Sl) h3 =>
  StL h3 (Addr.add (⟨r1, 0, none⟩) 1) 0 [(.slice x9.a x9.n x9.c)] fun h4 =>
  Ld h4 (Addr.add (⟨r1, 0, none⟩) 1) .sl fun (x12 : Sl) =>
  Lp (σ := (Int × Unit)) (fun K s h5 =>
  cond (decide (s.1 < (((x12.n : Nat) : Int))))
  (Ix x12 s.1 6 fun a17 =>
  LdA h5 a17 [.sl, .sl, (.int .i64), (.int .i64), .sl, (.int .i64)] fun (x18 : ((Sl) × (Sl) × (Int) × (Int) × (Sl) × (Int) × Unit)) =>
  New h5 (.cells #[(.slice none 0 0), (.slice none 0 0), (.int .i64 ((0 : Int))), (.int .i64 ((0 : Int))), (.slice none 0 0), (.int .i64 ((0 : Int)))] 60) fun r4 h6 =>
  StL h6 (⟨r4, 0, none⟩) 0 [(.slice x18.1.a x18.1.n x18.1.c), (.slice x18.2.1.a x18.2.1.n x18.2.1.c), (.int .i64 x18.2.2.1), (.int .i64 x18.2.2.2.1), (.slice x18.2.2.2.2.1.a x18.2.2.2.2.1.n x18.2.2.2.2.1.c), (.int .i64 x18.2.2.2.2.2.1)] fun h7 =>
  Ld h7 (Addr.add (⟨r4, 0, none⟩) 0) .sl fun (x20 : Sl) =>
  Ld h7 (Addr.add (⟨r4, 0, none⟩) 1) .sl fun (x23 : Sl) =>
  CallK Try.prog 65 [(.slice x20.a x20.n x20.c)] h7 (.un (.one .sl)) fun (x21 : Sl) h8 =>
  Le h7 h8 ∧
  CallK Try.prog 82 [(.slice x23.a x23.n x23.c)] h8 (.un (.one .sl)) fun (x24 : Sl) h9 =>
  StL h9 (Addr.add (⟨r4, 0, none⟩) 0) 0 [(.slice x21.a x21.n x21.c)] fun h10 =>
  StL h10 (Addr.add (⟨r4, 0, none⟩) 1) 0 [(.slice x24.a x24.n x24.c)] fun h11 =>
  Ld h11 (Addr.add (⟨r4, 0, none⟩) 1) .sl fun (x28 : Sl) =>
  Lp (σ := (Int × Unit)) (fun K_1 s_1 h12 =>
  cond (decide (s_1.1 < (((x28.n : Nat) : Int))))
  (Ld h12 (Addr.add (⟨r4, 0, none⟩) 1) .sl fun (x34 : Sl) =>
  Ld h12 (Addr.add (⟨r4, 0, none⟩) 1) .sl fun (x37 : Sl) =>
  Ix x37 s_1.1 7 fun a39 =>
  Ld h12 (Addr.add a39 2) .sl fun (x41 : Sl) =>
  CallK Try.prog 65 [(.slice x41.a x41.n x41.c)] h12 (.un (.one .sl)) fun (x42 : Sl) h13 =>
  Le h12 h13 ∧
  Ix x34 s_1.1 7 fun a43 =>
  StL h13 (Addr.add a43 2) 0 [(.slice x42.a x42.n x42.c)] fun h14 =>
  Wk h14 fun h15 => K_1 (IntKind.wrap .i64 (s_1.1 + ((1 : Int))), ()) h15)
  (Ld h12 (Addr.add (Addr.add (⟨r4, 0, none⟩) 2) 2) .sl fun (x48 : Sl) =>
  CallK Try.prog 83 [(.slice x48.a x48.n x48.c)] h12 (.un (.one .sl)) fun (x49 : Sl) h16 =>
  StL h16 (Addr.add (Addr.add (⟨r4, 0, none⟩) 2) 2) 0 [(.slice x49.a x49.n x49.c)] fun h17 =>
  Ld h17 (Addr.add (Addr.add (⟨r4, 0, none⟩) 2) 2) .sl fun (x54 : Sl) =>
  Lp (σ := (Int × Unit)) (fun K_2 s_2 h18 =>
  cond (decide (s_2.1 < (((x54.n : Nat) : Int))))
  (Ld h18 (Addr.add (Addr.add (⟨r4, 0, none⟩) 2) 2) .sl fun (x61 : Sl) =>
  Ld h18 (Addr.add (Addr.add (⟨r4, 0, none⟩) 2) 2) .sl fun (x65 : Sl) =>
  Ix x65 s_2.1 2 fun a67 =>
  Ld h18 (Addr.add a67 1) .sl fun (x69 : Sl) =>
  CallK Try.prog 65 [(.slice x69.a x69.n x69.c)] h18 (.un (.one .sl)) fun (x70 : Sl) h19 =>
  Le h18 h19 ∧
  Ix x61 s_2.1 2 fun a71 =>
  StL h19 (Addr.add a71 1) 0 [(.slice x70.a x70.n x70.c)] fun h20 =>
  Wk h20 fun h21 => K_2 (IntKind.wrap .i64 (s_2.1 + ((1 : Int))), ()) h21)
  (Ld h18 (Addr.add (⟨r1, 0, none⟩) 1) .sl fun (x75 : Sl) =>
  LdA h18 (⟨r4, 0, none⟩) [.sl, .sl, (.int .i64), (.int .i64), .sl, (.int .i64)] fun (x77 : ((Sl) × (Sl) × (Int) × (Int) × (Sl) × (Int) × Unit)) =>
  Ix x75 s.1 6 fun a78 =>
  StL h18 a78 0 [(.slice x77.1.a x77.1.n x77.1.c), (.slice x77.2.1.a x77.2.1.n x77.2.1.c), (.int .i64 x77.2.2.1), (.int .i64 x77.2.2.2.1), (.slice x77.2.2.2.2.1.a x77.2.2.2.2.1.n x77.2.2.2.2.1.c), (.int .i64 x77.2.2.2.2.2.1)] fun h22 =>
  Wk h22 fun h23 => K (IntKind.wrap .i64 (s.1 + ((1 : Int))), ()) h23))
  ((0 : Int), ()) h17))
  ((0 : Int), ()) h11)
  (LdA h5 (⟨r1, 0, none⟩) [.str, .sl] fun (x80 : ((ByteArray) × (Sl) × Unit)) =>
  StL h5 (⟨r2, 0, none⟩) 0 [(.string x80.1), (.slice x80.2.1.a x80.2.1.n x80.2.1.c)] fun h24 =>
  LdA h24 (⟨r2, 0, none⟩) [.str, .sl] fun (y : ((ByteArray) × (Sl) × Unit)) =>
  Wk h24 fun h25 => R (.agg ⟨[(.string y.1), (.slice y.2.1.a y.2.1.n y.2.1.c)]⟩) h25))
  ((0 : Int), ()) h4
theorem S55_eq (p0_0 : ByteArray) (p0_1 : Sl) (h : V) (R : Value → V → Prop) : ABody Try.prog an55 Try.f55 [(.agg ⟨[(.string p0_0), (.slice p0_1.a p0_1.n p0_1.c)]⟩)] h R = S55 p0_0 p0_1 h R := by kernel_rfl
theorem S55_ok (p0_0 : ByteArray) (p0_1 : Sl) (h : V) (R : Value → V → Prop) (hk : S55 p0_0 p0_1 h R) : ACalls Try.prog 55 [(.agg ⟨[(.string p0_0), (.slice p0_1.a p0_1.n p0_1.c)]⟩)] h R :=
  ABody_sound mixed Try.func55 Try.call55 (by kernel_rfl) (by kernel_rfl) (an := an55) (by rw [S55_eq]; exact hk)

/- slices.Clone[[]palings/ssa.Array,palings/ssa.Array] -/
def an79 : An := (.two .nil (.two (.two .nil (.two (.two .nil .nil) .nil)) (.two .nil .nil)))
def S79 (p0 : Sl) (h : V) (R : Value → V → Prop) : Prop :=
  cond (Option.isNone p0.a)
  (Wk h fun h1 => R (.slice none 0 0) h1)
  (New h (.cells #[] 86) fun r5 h2 =>
  App h2 ⟨(some ⟨r5, 0, none⟩), 0, 0⟩ p0 86 3 32 [(.string (⟨#[]⟩)), (.int .i64 ((0 : Int))), (.int .i64 ((0 : Int)))] fun s7 h3 =>
  Wk h3 fun h4 => R (.slice s7.a s7.n s7.c) h4)
theorem S79_eq (p0 : Sl) (h : V) (R : Value → V → Prop) : ABody Try.prog an79 Try.f79 [(.slice p0.a p0.n p0.c)] h R = S79 p0 h R := by kernel_rfl
theorem S79_ok (p0 : Sl) (h : V) (R : Value → V → Prop) (hk : S79 p0 h R) : ACalls Try.prog 79 [(.slice p0.a p0.n p0.c)] h R :=
  ABody_sound mixed Try.func79 Try.call79 (by kernel_rfl) (by kernel_rfl) (an := an79) (by rw [S79_eq]; exact hk)

/- slices.Clone[[]palings/ssa.Func,palings/ssa.Func] -/
def an80 : An := (.two .nil (.two (.two .nil (.two (.two .nil .nil) .nil)) (.two .nil .nil)))
def S80 (p0 : Sl) (h : V) (R : Value → V → Prop) : Prop :=
  cond (Option.isNone p0.a)
  (Wk h fun h1 => R (.slice none 0 0) h1)
  (New h (.cells #[] 63) fun r5 h2 =>
  App h2 ⟨(some ⟨r5, 0, none⟩), 0, 0⟩ p0 63 2 40 [(.string (⟨#[]⟩)), (.slice none 0 0)] fun s7 h3 =>
  Wk h3 fun h4 => R (.slice s7.a s7.n s7.c) h4)
theorem S80_eq (p0 : Sl) (h : V) (R : Value → V → Prop) : ABody Try.prog an80 Try.f80 [(.slice p0.a p0.n p0.c)] h R = S80 p0 h R := by kernel_rfl
theorem S80_ok (p0 : Sl) (h : V) (R : Value → V → Prop) (hk : S80 p0 h R) : ACalls Try.prog 80 [(.slice p0.a p0.n p0.c)] h R :=
  ABody_sound mixed Try.func80 Try.call80 (by kernel_rfl) (by kernel_rfl) (an := an80) (by rw [S80_eq]; exact hk)

/- slices.Clone[[]palings/ssa.Block,palings/ssa.Block] -/
def an81 : An := (.two .nil (.two (.two .nil (.two (.two .nil .nil) .nil)) (.two .nil .nil)))
def S81 (p0 : Sl) (h : V) (R : Value → V → Prop) : Prop :=
  cond (Option.isNone p0.a)
  (Wk h fun h1 => R (.slice none 0 0) h1)
  (New h (.cells #[] 60) fun r5 h2 =>
  App h2 ⟨(some ⟨r5, 0, none⟩), 0, 0⟩ p0 60 6 96 [(.slice none 0 0), (.slice none 0 0), (.int .i64 ((0 : Int))), (.int .i64 ((0 : Int))), (.slice none 0 0), (.int .i64 ((0 : Int)))] fun s7 h3 =>
  Wk h3 fun h4 => R (.slice s7.a s7.n s7.c) h4)
theorem S81_eq (p0 : Sl) (h : V) (R : Value → V → Prop) : ABody Try.prog an81 Try.f81 [(.slice p0.a p0.n p0.c)] h R = S81 p0 h R := by kernel_rfl
theorem S81_ok (p0 : Sl) (h : V) (R : Value → V → Prop) (hk : S81 p0 h R) : ACalls Try.prog 81 [(.slice p0.a p0.n p0.c)] h R :=
  ABody_sound mixed Try.func81 Try.call81 (by kernel_rfl) (by kernel_rfl) (an := an81) (by rw [S81_eq]; exact hk)

/- slices.Clone[[]palings/ssa.Ins,palings/ssa.Ins] -/
def an82 : An := (.two .nil (.two (.two .nil (.two (.two .nil .nil) .nil)) (.two .nil .nil)))
def S82 (p0 : Sl) (h : V) (R : Value → V → Prop) : Prop :=
  cond (Option.isNone p0.a)
  (Wk h fun h1 => R (.slice none 0 0) h1)
  (New h (.cells #[] 51) fun r5 h2 =>
  App h2 ⟨(some ⟨r5, 0, none⟩), 0, 0⟩ p0 51 7 72 [(.int .i64 ((0 : Int))), (.int .i64 ((0 : Int))), (.slice none 0 0), (.int .i64 ((0 : Int))), (.int .i64 ((0 : Int))), (.int .i64 ((0 : Int))), (.int .i64 ((0 : Int)))] fun s7 h3 =>
  Wk h3 fun h4 => R (.slice s7.a s7.n s7.c) h4)
theorem S82_eq (p0 : Sl) (h : V) (R : Value → V → Prop) : ABody Try.prog an82 Try.f82 [(.slice p0.a p0.n p0.c)] h R = S82 p0 h R := by kernel_rfl
theorem S82_ok (p0 : Sl) (h : V) (R : Value → V → Prop) (hk : S82 p0 h R) : ACalls Try.prog 82 [(.slice p0.a p0.n p0.c)] h R :=
  ABody_sound mixed Try.func82 Try.call82 (by kernel_rfl) (by kernel_rfl) (an := an82) (by rw [S82_eq]; exact hk)

/- slices.Clone[[]palings/ssa.Edge,palings/ssa.Edge] -/
def an83 : An := (.two .nil (.two (.two .nil (.two (.two .nil .nil) .nil)) (.two .nil .nil)))
def S83 (p0 : Sl) (h : V) (R : Value → V → Prop) : Prop :=
  cond (Option.isNone p0.a)
  (Wk h fun h1 => R (.slice none 0 0) h1)
  (New h (.cells #[] 55) fun r5 h2 =>
  App h2 ⟨(some ⟨r5, 0, none⟩), 0, 0⟩ p0 55 2 32 [(.int .i64 ((0 : Int))), (.slice none 0 0)] fun s7 h3 =>
  Wk h3 fun h4 => R (.slice s7.a s7.n s7.c) h4)
theorem S83_eq (p0 : Sl) (h : V) (R : Value → V → Prop) : ABody Try.prog an83 Try.f83 [(.slice p0.a p0.n p0.c)] h R = S83 p0 h R := by kernel_rfl
theorem S83_ok (p0 : Sl) (h : V) (R : Value → V → Prop) (hk : S83 p0 h R) : ACalls Try.prog 83 [(.slice p0.a p0.n p0.c)] h R :=
  ABody_sound mixed Try.func83 Try.call83 (by kernel_rfl) (by kernel_rfl) (an := an83) (by rw [S83_eq]; exact hk)

end Go.Proofs.Ytapdnglpchejlaa

/- Contracts of package ssa: Clone. -/
namespace Go.Proofs.Ytapdnglpchejlaa
open Go Go.VL

theorem clone_loop {α : Type} {enc : α → List Value} {sz d : Nat} {T : TypeId} {hq h0 : V} {x : Sl} {A : Addr} {ys : List α} {ls : List (List Int)} {gt : α → Sl} {st : α → Sl → α} {E : V → Prop}
    (he : ∀ y, (enc y).length = sz) (hd : d + 1 ≤ sz) (hs : ∀ y s, enc (st y s) = (enc y).take d ++ [sV s] ++ (enc y).drop (d + 1)) (hg : ∀ y, (enc y)[d]? = some (sV (gt y))) (hgs : ∀ y s, gt (st y s) = s)
    (lq : Le hq h0) (o : OwnS hq h0 x T sz (ys.flatMap enc)) (hA : cellq h0 A = some (sV x)) (hAx : ∀ a, x.a = some a → a.block ≠ A.block)
    (hl : ls.length = ys.length) (hi : ∀ (k : Nat) y l, ys[k]? = some y → ls[k]? = some l → isInts hq (gt y) l) (hb : ∀ l ∈ ls, l.length ≤ 1048576)
    (hE : ∀ (hh : V) (zs : List α), Le (V.ex h0 x) (V.ex hh x) → OwnS hq hh x T sz (zs.flatMap enc) → zs.length = ys.length →
      (∀ (j : Nat) y z l, ys[j]? = some y → zs[j]? = some z → ls[j]? = some l → ∃ s, z = st y s ∧ OwnS h0 hh s 3 1 (l.map (Value.int .i64)) ∧ neB s x) → E hh) :
    Lp (fun K s h12 => cond (decide (s.1 < (x.n : Int))) (Ld h12 A .sl fun (x34 : Sl) => Ld h12 A .sl fun (x37 : Sl) => Ix x37 s.1 sz fun a39 => Ld h12 (Addr.add a39 d) .sl fun (x41 : Sl) =>
      CallK Try.prog 65 [.slice x41.a x41.n x41.c] h12 (.un (.one .sl)) fun (x42 : Sl) h13 => Le h12 h13 ∧ Ix x34 s.1 sz fun a43 => StL h13 (Addr.add a43 d) 0 [.slice x42.a x42.n x42.c] fun h14 => Wk h14 fun h15 => K (IntKind.wrap .i64 (s.1 + 1), ()) h15) (E h12)) ((0 : Int), ()) h0 := by
  have hz : 0 < sz := by omega
  have hxn : x.n = ys.length := by have := o.1; rw [flat_len he] at this; exact (Nat.eq_of_mul_eq_mul_right hz this).symm
  have hbd : ys.length ≤ 9223372036854775807 := by have := o.2.2.1; omega
  refine Lp_count ys.length (fun k st' hh => st' = ((k : Int), ()) ∧ Le hq hh ∧ Le (V.ex h0 x) (V.ex hh x) ∧ ∃ zs, OwnS hq hh x T sz (zs.flatMap enc) ∧ zs.length = ys.length ∧ (∀ j, k ≤ j → zs[j]? = ys[j]?) ∧
      (∀ (j : Nat) y z l, j < k → ys[j]? = some y → zs[j]? = some z → ls[j]? = some l → ∃ s, z = st y s ∧ OwnS h0 hh s 3 1 (l.map (Value.int .i64)) ∧ neB s x))
    ⟨rfl, lq, Le.refl _, ys, o, rfl, fun _ _ => rfl, fun j y z l hj => absurd hj (by omega)⟩ ?_
  rintro k _ h12 K hk ⟨rfl, lq12, l12, zs, o12, zl, hun, hdn⟩ hK
  have hA12 : cellq h12 A = some (sV x) := by
    rw [← cellq_ex (s := x) hAx] at hA ⊢
    exact cellq_le l12 hA
  refine cond_dec (fun hlt => ?_) (fun hge => ?_)
  · have hk' : k < ys.length := by simp only at hlt; omega
    have hkz : k < zs.length := by omega
    have hkl : k < ls.length := by omega
    have ez : zs[k] = ys[k] := by
      have := hun k (Nat.le_refl _)
      rw [List.getElem?_eq_getElem hkz, List.getElem?_eq_getElem hk'] at this
      exact Option.some.inj this
    refine ⟨x, hA12, x, hA12, (o12.slN he hz).ixn hkz fun a ha => ?_⟩
    have hcell : cellq h12 (a.add d) = some (sV (gt ys[k])) := by
      have := cellsAt_get ha d _ (hg zs[k])
      rw [Nat.zero_add, ez] at this; exact this
    refine ⟨_, hcell, c_cloneInts ((hi k _ _ (List.getElem?_eq_getElem hk') (List.getElem?_eq_getElem hkl)).le mono_int lq12) (hb _ (List.getElem_mem hkl)) fun s' h13 l13 o13 _ => ⟨s', rfl, l13, ?_⟩⟩
    have hsx : neB s' x := (o12.ne o13).symm
    refine OwnS.setN (st zs[k] s') he (o12.le l13) (lq12.trans l13) hkz (hs _ _) (by simp only [List.length_cons, List.length_nil]; omega) hz fun h14 l14 o14 f14 => ?_
    refine Wk_self (hK _ _ hk' ⟨by rw [wnat hk' hbd], l14, l12.trans ((V.ex_mono l13).trans (V.ex_set f14)), zs.set k (st zs[k] s'), o14, by simp [zl], fun j hj => ?_, fun j y z l hj hy hz' hl' => ?_⟩)
    · rw [List.getElem?_set_ne (by omega)]; exact hun j (by omega)
    · have o13' : OwnS h0 h14 s' 3 1 ((ls[k]).map (Value.int .i64)) := (o13.rebaseN fun a ha => by
          cases hx : h0 a.block with
          | none => rfl
          | some ob =>
            have := ex_step l12 hx (fun b hb => hsx a b ha hb)
            rw [(o13.blk ha).1] at this; cases this).off hsx f14
      by_cases e : j = k
      · subst e
        rw [List.getElem?_set_self hkz] at hz'
        rw [List.getElem?_eq_getElem hk'] at hy
        rw [List.getElem?_eq_getElem hkl] at hl'
        cases hy; cases hl'
        rw [← Option.some.inj hz', ez]
        exact ⟨s', rfl, o13', hsx⟩
      · rw [List.getElem?_set_ne (by omega)] at hz'
        obtain ⟨s, e1, e2, e3⟩ := hdn j y z l (by omega) hy hz' hl'
        exact ⟨s, e1, (e2.le l13).off e3 f14, e3⟩
  · have : k = ys.length := by simp only at hge; omega
    subst this
    exact hE h12 zs l12 o12 zl fun j y z l hy hz' hl' => hdn j y z l (List.getElem?_eq_some_iff.1 hy).1 hy hz' hl'

/- what blocks, instructions, ways are but for what their slices hold -/
structure InsH where
  op : Int
  dst : Int
  a : Sl
  num : Int
  bin : Int
  arr : Int
  fn : Int
def encI (y : InsH) : List Value := [iV y.op, iV y.dst, sV y.a, iV y.num, iV y.bin, iV y.arr, iV y.fn]
structure EdgeH where
  to : Int
  a : Sl
def encE (y : EdgeH) : List Value := [iV y.to, sV y.a]
structure BlkH where
  p : Sl
  i : Sl
  kind : Int
  val : Int
  w : Sl
  trap : Int
def encB (y : BlkH) : List Value := [sV y.p, sV y.i, iV y.kind, iV y.val, sV y.w, iV y.trap]
structure FunH where
  name : ByteArray
  s : Sl
def encF (y : FunH) : List Value := [.string y.name, sV y.s]
def QI (h : V) (x : InsD) (y : InsH) : Prop := y.op = x.op ∧ y.dst = x.dst ∧ y.num = x.num ∧ y.bin = x.bin ∧ y.arr = x.arr ∧ y.fn = x.fn ∧ isInts h y.a x.args
def QE (h : V) (x : EdgeD) (y : EdgeH) : Prop := y.to = x.to ∧ isInts h y.a x.args
def QB (h : V) (x : BlockD) (y : BlkH) : Prop := y.kind = x.e.kind ∧ y.val = x.e.val ∧ y.trap = x.e.trap ∧ isInts h y.p x.params ∧ isInss h y.i x.ins ∧ isEdges h y.w x.e.ways
def QF (h : V) (x : FuncD) (y : FunH) : Prop := y.name = x.name ∧ isBlocks h y.s x.blocks
theorem QI.rep {h : V} {x : InsD} {y : InsH} {a : Addr} (q : QI h x y) (hc : cellsAt h a 0 (encI y)) : repIns h a x := by
  obtain ⟨e1, e2, e3, e4, e5, e6, e7⟩ := q
  refine ⟨y.a, e7, ?_⟩
  unfold encI at hc
  rwa [e1, e2, e3, e4, e5, e6] at hc
theorem QE.rep {h : V} {x : EdgeD} {y : EdgeH} {a : Addr} (q : QE h x y) (hc : cellsAt h a 0 (encE y)) : repEdge h a x := by
  obtain ⟨e1, e2⟩ := q
  refine ⟨y.a, e2, ?_⟩
  unfold encE at hc
  rwa [e1] at hc
theorem QB.rep {h : V} {x : BlockD} {y : BlkH} {a : Addr} (q : QB h x y) (hc : cellsAt h a 0 (encB y)) : repBlock h a x := by
  obtain ⟨e1, e2, e3, e4, e5, e6⟩ := q
  refine ⟨y.p, y.i, y.w, e4, e5, e6, ?_⟩
  unfold encB at hc
  rwa [e1, e2, e3] at hc
theorem QF.rep {h : V} {x : FuncD} {y : FunH} {a : Addr} (q : QF h x y) (hc : cellsAt h a 0 (encF y)) : repFunc h a x := by
  obtain ⟨e1, e2⟩ := q
  refine ⟨y.s, e2, ?_⟩
  unfold encF at hc
  rwa [e1] at hc
theorem QI.of {h : V} {a : Addr} {x : InsD} (r : repIns h a x) : ∃ y, QI h x y ∧ cellsAt h a 0 (encI y) := let ⟨s, h1, h2⟩ := r; ⟨⟨x.op, x.dst, s, x.num, x.bin, x.arr, x.fn⟩, ⟨rfl, rfl, rfl, rfl, rfl, rfl, h1⟩, h2⟩
theorem QE.of {h : V} {a : Addr} {x : EdgeD} (r : repEdge h a x) : ∃ y, QE h x y ∧ cellsAt h a 0 (encE y) := let ⟨s, h1, h2⟩ := r; ⟨⟨x.to, s⟩, ⟨rfl, h1⟩, h2⟩
theorem QB.of {h : V} {a : Addr} {x : BlockD} (r : repBlock h a x) : ∃ y, QB h x y ∧ cellsAt h a 0 (encB y) := let ⟨p, i, w, h1, h2, h3, h4⟩ := r; ⟨⟨p, i, x.e.kind, x.e.val, w, x.e.trap⟩, ⟨rfl, rfl, rfl, h1, h2, h3⟩, h4⟩
theorem QF.of {h : V} {a : Addr} {x : FuncD} (r : repFunc h a x) : ∃ y, QF h x y ∧ cellsAt h a 0 (encF y) := let ⟨s, h1, h2⟩ := r; ⟨⟨x.name, s⟩, ⟨rfl, h1⟩, h2⟩
theorem QI.le {h h' : V} {x : InsD} {y : InsH} (q : QI h x y) (l : Le h h') : QI h' x y := let ⟨a, b, c, d, e, f, g⟩ := q; ⟨a, b, c, d, e, f, g.le mono_int l⟩
theorem QE.le {h h' : V} {x : EdgeD} {y : EdgeH} (q : QE h x y) (l : Le h h') : QE h' x y := let ⟨a, b⟩ := q; ⟨a, b.le mono_int l⟩
theorem QB.le {h h' : V} {x : BlockD} {y : BlkH} (q : QB h x y) (l : Le h h') : QB h' x y := let ⟨a, b, c, d, e, f⟩ := q; ⟨a, b, c, d.le mono_int l, e.le mono_ins l, f.le mono_edge l⟩
theorem QF.le {h h' : V} {x : FuncD} {y : FunH} (q : QF h x y) (l : Le h h') : QF h' x y := let ⟨a, b⟩ := q; ⟨a, b.le mono_block l⟩
/- an own slice of headers, and what each stands for -/
theorem own_sl {α β : Type} {rep : V → Addr → α → Prop} {Q : V → α → β → Prop} {enc : β → List Value} {sz : Nat} {h0 h h1 : V} {s : Sl} {T : TypeId} {xs : List α} {ys : List β} (he : ∀ x, (enc x).length = sz) (hz : 0 < sz) (hr : ∀ {h a x y}, Q h x y → cellsAt h a 0 (enc y) → rep h a x)
    (hQ : ∀ {h h' x y}, Q h x y → Le h h' → Q h' x y) (o : OwnS h0 h s T sz (ys.flatMap enc)) (hl : ys.length = xs.length) (l : Le h1 h) (hq : ∀ (k : Nat) x y, xs[k]? = some x → ys[k]? = some y → Q h1 x y) : isSl rep sz h s xs := by
  obtain ⟨c1, c2, c3, c4⟩ := o.slN he hz
  refine ⟨by omega, c2, c3, fun k hk => ?_⟩
  obtain ⟨a, ha, hra⟩ := c4 k (by omega)
  exact ⟨a, ha, hr (hQ (hq k _ _ (List.getElem?_eq_getElem hk) (List.getElem?_eq_getElem (by omega))) l) hra⟩
theorem c_cloneInss {hq h : V} {s : Sl} {xs : List InsD} {R : Value → V → Prop} (lq : Le hq h) (hs : isInss hq s xs) (hb : xs.length ≤ 1048576)
    (hR : ∀ s' h' (ys : List InsH), Le h h' → OwnS h h' s' 51 7 (ys.flatMap encI) → ys.length = xs.length → (∀ (k : Nat) x y, xs[k]? = some x → ys[k]? = some y → QI hq x y) → R (sV s') h') : ACalls Try.prog 82 [sV s] h R := by
  obtain ⟨ys, e1, e2, e3, e4⟩ := isSl_enc (enc := encI) (fun _ => rfl) (fun a x r => QI.of r) hs
  exact S82_ok _ _ _ (clone_own (fun _ => rfl) (by omega) ⟨e3.1, fun a ha => cellsAt_le lq (e3.2 a ha)⟩ e4 (fun _ => rfl) rfl (by omega) (by omega) fun s' h' l o => hR s' h' ys l o e1 e2)
theorem c_cloneEdges {hq h : V} {s : Sl} {xs : List EdgeD} {R : Value → V → Prop} (lq : Le hq h) (hs : isEdges hq s xs) (hb : xs.length ≤ 1048576)
    (hR : ∀ s' h' (ys : List EdgeH), Le h h' → OwnS h h' s' 55 2 (ys.flatMap encE) → ys.length = xs.length → (∀ (k : Nat) x y, xs[k]? = some x → ys[k]? = some y → QE hq x y) → R (sV s') h') : ACalls Try.prog 83 [sV s] h R := by
  obtain ⟨ys, e1, e2, e3, e4⟩ := isSl_enc (enc := encE) (fun _ => rfl) (fun a x r => QE.of r) hs
  exact S83_ok _ _ _ (clone_own (fun _ => rfl) (by omega) ⟨e3.1, fun a ha => cellsAt_le lq (e3.2 a ha)⟩ e4 (fun _ => rfl) rfl (by omega) (by omega) fun s' h' l o => hR s' h' ys l o e1 e2)
theorem c_cloneBlocks {hq h : V} {s : Sl} {xs : List BlockD} {R : Value → V → Prop} (lq : Le hq h) (hs : isBlocks hq s xs) (hb : xs.length ≤ 1048576)
    (hR : ∀ s' h' (ys : List BlkH), Le h h' → OwnS h h' s' 60 6 (ys.flatMap encB) → ys.length = xs.length → (∀ (k : Nat) x y, xs[k]? = some x → ys[k]? = some y → QB hq x y) → R (sV s') h') : ACalls Try.prog 81 [sV s] h R := by
  obtain ⟨ys, e1, e2, e3, e4⟩ := isSl_enc (enc := encB) (fun _ => rfl) (fun a x r => QB.of r) hs
  exact S81_ok _ _ _ (clone_own (fun _ => rfl) (by omega) ⟨e3.1, fun a ha => cellsAt_le lq (e3.2 a ha)⟩ e4 (fun _ => rfl) rfl (by omega) (by omega) fun s' h' l o => hR s' h' ys l o e1 e2)
theorem c_cloneFuncs {hq h : V} {s : Sl} {xs : List FuncD} {R : Value → V → Prop} (lq : Le hq h) (hs : isFuncs hq s xs) (hb : xs.length ≤ 1048576)
    (hR : ∀ s' h' (ys : List FunH), Le h h' → OwnS h h' s' 63 2 (ys.flatMap encF) → ys.length = xs.length → (∀ (k : Nat) x y, xs[k]? = some x → ys[k]? = some y → QF hq x y) → R (sV s') h') : ACalls Try.prog 80 [sV s] h R := by
  obtain ⟨ys, e1, e2, e3, e4⟩ := isSl_enc (enc := encF) (fun _ => rfl) (fun a x r => QF.of r) hs
  exact S80_ok _ _ _ (clone_own (fun _ => rfl) (by omega) ⟨e3.1, fun a ha => cellsAt_le lq (e3.2 a ha)⟩ e4 (fun _ => rfl) rfl (by omega) (by omega) fun s' h' l o => hR s' h' ys l o e1 e2)
theorem c_cloneArrs {h : V} {s : Sl} {xs : List ArrD} {R : Value → V → Prop} (hs : isArrs h s xs) (hb : xs.length ≤ 1048576)
    (hR : ∀ s' h', Le h h' → OwnS h h' s' 86 3 (xs.flatMap arrV) → R (sV s') h') : ACalls Try.prog 79 [sV s] h R := by
  obtain ⟨ys, e1, e2, e3, e4⟩ := isSl_enc (Q := fun x y => y = x) (enc := arrV) (fun _ => rfl) (fun a x r => ⟨x, rfl, r⟩) hs
  have : ys = xs := by
    apply List.ext_getElem?
    intro k
    by_cases hk : k < xs.length
    · rw [List.getElem?_eq_getElem hk, List.getElem?_eq_getElem (by omega)]
      exact congrArg some (e2 k _ _ (List.getElem?_eq_getElem hk) (List.getElem?_eq_getElem (by omega)))
    · rw [List.getElem?_eq_none (by omega), List.getElem?_eq_none (by omega)]
  subst this
  exact S79_ok _ _ _ (clone_own (fun _ => rfl) (by omega) e3 e4 (fun _ => rfl) rfl (by omega) (by omega) fun s' h' l o => hR s' h' l o)
end Go.Proofs.Ytapdnglpchejlaa

/- What functions of the program ask of a view of memory: printed by shal.py. -/
namespace Go.Proofs.Ytapdnglpchejlaa
open Go Go.VL
set_option maxRecDepth 100000
/- palings/palingslaw08.head -/
def an13 : An := (.two .nil (.two .nil (.two .nil (.two .nil .nil))))
def S13  (h : V) (R : Value → V → Prop) : Prop :=
  New h (.cells #[(.int .i64 ((1 : Int))), (.int .i64 ((1 : Int))), (.slice none 0 0), (.int .i64 ((5 : Int))), (.int .i64 ((0 : Int))), (.int .i64 ((0 : Int))), (.int .i64 ((0 : Int)))] 51) fun r5 h1 =>
  New h1 (.cells #[(.slice none 0 0), (.slice ((some ⟨r5, 0, none⟩)) 1 1), (.int .i64 ((3 : Int))), (.int .i64 ((1 : Int))), (.slice none 0 0), (.int .i64 ((0 : Int)))] 60) fun r8 h2 =>
  New h2 (.cells #[(.string (⟨#[]⟩)), (.slice ((some ⟨r8, 0, none⟩)) 1 1)] 63) fun r10 h3 =>
  New h3 (.cells #[(.slice none 0 0), (.slice none 0 0), (.int .i64 ((0 : Int)))] 25) fun r1 h4 =>
  StL h4 (⟨r1, 0, none⟩) 0 [(.slice none 0 0), (.slice ((some ⟨r10, 0, none⟩)) 1 1), (.int .i64 ((0 : Int)))] fun h5 =>
  LdA h5 (⟨r1, 0, none⟩) [.sl, .sl, (.int .i64)] fun (x13 : ((Sl) × (Sl) × (Int) × Unit)) =>
  CallK Try.prog 16 [(.agg ⟨[(.slice x13.1.a x13.1.n x13.1.c), (.slice x13.2.1.a x13.2.1.n x13.2.1.c), (.int .i64 x13.2.2.1)]⟩), (.slice none 0 0), (.int .i64 ((10 : Int)))] h5 (.tup [(.agg [(.int .i64), (.int .i64), .sl, (.int .i64), (.int .i64), .sl]), (.one (.int .i64))]) fun (x14 : (((Int) × (Int) × (Sl) × (Int) × (Int) × (Sl) × Unit) × Int × Unit)) h6 =>
  New h6 (.cells #[(.int .i64 ((0 : Int))), (.int .i64 ((0 : Int))), (.slice none 0 0), (.int .i64 ((0 : Int))), (.int .i64 ((0 : Int))), (.slice none 0 0)] 33) fun r2 h7 =>
  StL h7 (⟨r2, 0, none⟩) 0 [(.int .i64 x14.1.1), (.int .i64 x14.1.2.1), (.slice x14.1.2.2.1.a x14.1.2.2.1.n x14.1.2.2.1.c), (.int .i64 x14.1.2.2.2.1), (.int .i64 x14.1.2.2.2.2.1), (.slice x14.1.2.2.2.2.2.1.a x14.1.2.2.2.2.2.1.n x14.1.2.2.2.2.2.1.c)] fun h8 =>
  cond (x14.2.1 == ((0 : Int)))
  (Ld h8 (Addr.add (⟨r2, 0, none⟩) 0) (.int .i64) fun (x21 : Int) =>
  cond (x21 == ((5 : Int)))
  (Ld h8 (Addr.add (⟨r2, 0, none⟩) 3) (.int .i64) fun (x26 : Int) =>
  cond (x26 == ((2 : Int)))
  (Ld h8 (Addr.add (⟨r2, 0, none⟩) 2) .sl fun (x31 : Sl) =>
  cond ((((x31.n : Nat) : Int)) == ((0 : Int)))
  (Ld h8 (Addr.add (⟨r2, 0, none⟩) 4) (.int .i64) fun (x37 : Int) =>
  Wk h8 fun h9 => R (.bool (x37 == ((1 : Int)))) h9)
  (Wk h8 fun h10 => R (.bool false) h10))
  (Wk h8 fun h11 => R (.bool false) h11))
  (Wk h8 fun h12 => R (.bool false) h12))
  (Wk h8 fun h13 => R (.bool false) h13)
theorem S13_eq  (h : V) (R : Value → V → Prop) : ABody Try.prog an13 Try.f13 [] h R = S13  h R := by kernel_rfl
theorem S13_ok  (h : V) (R : Value → V → Prop) (hk : S13  h R) : ACalls Try.prog 13 [] h R :=
  ABody_sound mixed Try.func13 Try.call13 (by kernel_rfl) (by kernel_rfl) (an := an13) (by rw [S13_eq]; exact hk)

/- palings/palingslaw08.SimRuns -/
def an3 : An := (.two .nil (.two (.two .nil (.two (.two .nil .nil) .nil)) (.cut [] (.two .nil (.two (.two .nil .nil) .nil)) (.two .nil (.two (.two .nil (.two (.two .nil .nil) .nil)) (.two (.two .nil (.two (.two .nil .nil) .nil)) (.two (.perm [0, 1, 2, 4, 5, 3, 6, 7, 8] [3]) (.two .nil (.two (.two .nil (.two (.two .nil .nil) .nil)) (.cut [] (.two (.perm [0, 1, 2, 3, 4, 5, 6, 7, 8, 9, 10, 11, 12, 13, 14, 15, 16, 17, 18, 19, 20, 21, 22, 23, 24, 25, 26, 27, 28, 29, 30, 31, 32, 33, 34, 35, 36, 37, 38, 39, 40, 41, 42, 43, 44, 45, 46, 47, 48, 49] []) (.two (.two .nil .nil) .nil)) (.two (.two .nil (.one (.loop [(134, (.one (.int .i64)))] (.two .nil (.two (.two .nil .nil) (.two (.one (.two .nil (.two (.two (.perm [0, 1, 2, 3, 4, 5, 6, 7, 8, 9, 10, 11, 12, 13, 14] []) (.two (.two .nil .nil) .nil)) (.two .nil (.one (.loop [(158, (.one (.int .i64)))] (.two .nil (.two (.two .nil .nil) (.two (.one (.two .nil (.two (.perm [0, 1, 2, 3, 4, 5, 6, 7, 8, 9, 10, 11, 12, 13, 14, 15, 16, 17, 18] []) (.two (.two .nil .nil) .nil)))) .nil))))))))) .nil)))))) (.two .nil .nil))))))))))))
def S3 (p0_0 : Sl) (p0_1 : Sl) (p0_2 : Int) (p1 : Sl) (p2 : Int) (h : V) (R : Value → V → Prop) : Prop :=
  New h (.cells #[(.slice p0_0.a p0_0.n p0_0.c), (.slice p0_1.a p0_1.n p0_1.c), (.int .i64 p0_2)] 25) fun r3 h1 =>
  CallK Try.prog 13 [] h1 (.un (.one .bool)) fun (x14 : Bool) h2 =>
  cond (!x14)
  (Wk h2 fun h3 => R (.bool false) h3)
  (Cut (σ := (Unit)) (fun _ h4 =>
  LdA h4 (⟨r3, 0, none⟩) [.sl, .sl, (.int .i64)] fun (x25 : ((Sl) × (Sl) × (Int) × Unit)) =>
  CallK Try.prog 16 [(.agg ⟨[(.slice x25.1.a x25.1.n x25.1.c), (.slice x25.2.1.a x25.2.1.n x25.2.1.c), (.int .i64 x25.2.2.1)]⟩), (.slice p1.a p1.n p1.c), (.int .i64 (bits .and .i64 p2 ((1023 : Int))))] h4 (.tup [(.agg [(.int .i64), (.int .i64), .sl, (.int .i64), (.int .i64), .sl]), (.one (.int .i64))]) fun (x29 : (((Int) × (Int) × (Sl) × (Int) × (Int) × (Sl) × Unit) × Int × Unit)) h5 =>
  New h5 (.cells #[(.int .i64 ((0 : Int))), (.int .i64 ((0 : Int))), (.slice none 0 0), (.int .i64 ((0 : Int))), (.int .i64 ((0 : Int))), (.slice none 0 0)] 33) fun r7 h6 =>
  StL h6 (⟨r7, 0, none⟩) 0 [(.int .i64 x29.1.1), (.int .i64 x29.1.2.1), (.slice x29.1.2.2.1.a x29.1.2.2.1.n x29.1.2.2.1.c), (.int .i64 x29.1.2.2.2.1), (.int .i64 x29.1.2.2.2.2.1), (.slice x29.1.2.2.2.2.2.1.a x29.1.2.2.2.2.2.1.n x29.1.2.2.2.2.2.1.c)] fun h7 =>
  LdA h7 (⟨r3, 0, none⟩) [.sl, .sl, (.int .i64)] fun (x32 : ((Sl) × (Sl) × (Int) × Unit)) =>
  CallK Try.prog 17 [(.agg ⟨[(.slice x32.1.a x32.1.n x32.1.c), (.slice x32.2.1.a x32.2.1.n x32.2.1.c), (.int .i64 x32.2.2.1)]⟩)] h7 (.un (.one (.int .i64))) fun (x33 : Int) h8 =>
  cond (x33 != ((0 : Int)))
  (cond (x29.2.1 == ((40 : Int)))
  (Ld h8 (Addr.add (⟨r7, 0, none⟩) 2) .sl fun (x39 : Sl) =>
  Wk h8 fun h9 => R (.bool ((((x39.n : Nat) : Int)) == ((0 : Int)))) h9)
  (Wk h8 fun h10 => R (.bool false) h10))
  (LdA h8 (⟨r3, 0, none⟩) [.sl, .sl, (.int .i64)] fun (x43 : ((Sl) × (Sl) × (Int) × Unit)) =>
  CallK Try.prog 18 [(.agg ⟨[(.slice x43.1.a x43.1.n x43.1.c), (.slice x43.2.1.a x43.2.1.n x43.2.1.c), (.int .i64 x43.2.2.1)]⟩)] h8 (.un (.one .bool)) fun (x44 : Bool) h11 =>
  cond (!x44)
  (Wk h11 fun h12 => R (.bool true) h12)
  (LdA h11 (⟨r3, 0, none⟩) [.sl, .sl, (.int .i64)] fun (x46 : ((Sl) × (Sl) × (Int) × Unit)) =>
  LdA h11 (⟨r3, 0, none⟩) [.sl, .sl, (.int .i64)] fun (x47 : ((Sl) × (Sl) × (Int) × Unit)) =>
  CallK Try.prog 19 [(.agg ⟨[(.slice x47.1.a x47.1.n x47.1.c), (.slice x47.2.1.a x47.2.1.n x47.2.1.c), (.int .i64 x47.2.2.1)]⟩), (.slice p1.a p1.n p1.c)] h11 (.un (.one .sl)) fun (x49 : Sl) h13 =>
  Le h11 h13 ∧
  New h13 (.cells #[(.slice x46.1.a x46.1.n x46.1.c), (.slice x46.2.1.a x46.2.1.n x46.2.1.c), (.int .i64 x46.2.2.1), (.slice x49.a x49.n x49.c), (.slice none 0 0), (.int .i64 (bits .and .i64 p2 ((1023 : Int)))), (.int .i64 ((0 : Int))), (.bool false)] 41) fun r53 h14 =>
  Ld h14 (Addr.add (⟨r3, 0, none⟩) 2) (.int .i64) fun (x57 : Int) =>
  CallK Try.prog 20 [(.pointer (some (⟨r53, 0, none⟩))), (.int .i64 x57), (.slice none 0 0), (.int .i64 ((0 : Int)))] h14 (.tup [(.one (.int .i64)), (.one .bool)]) fun (x58 : (Int × Bool × Unit)) h15 =>
  Ld h15 (Addr.add (⟨r53, 0, none⟩) 7) .bool fun (x64 : Bool) =>
  cond x64
  (cond (x29.2.1 == ((41 : Int)))
  (Ld h15 (Addr.add (⟨r7, 0, none⟩) 3) (.int .i64) fun (x69 : Int) =>
  cond (x69 == ((0 : Int)))
  (Wk h15 fun h16 => R (.bool true) h16)
  (cond (x29.2.1 == ((0 : Int)))
  (Ld h15 (Addr.add (⟨r7, 0, none⟩) 4) (.int .i64) fun (x77 : Int) =>
  Wk h15 fun h17 => R (.bool (decide (x77 > ((60 : Int))))) h17)
  (Wk h15 fun h18 => R (.bool false) h18)))
  (cond (x29.2.1 == ((0 : Int)))
  (Ld h15 (Addr.add (⟨r7, 0, none⟩) 4) (.int .i64) fun (x77_1 : Int) =>
  Wk h15 fun h19 => R (.bool (decide (x77_1 > ((60 : Int))))) h19)
  (Wk h15 fun h20 => R (.bool false) h20)))
  (Cut (σ := (Unit)) (fun _ h21 =>
  Ld h21 (Addr.add (⟨r7, 0, none⟩) 5) .sl fun (x132 : Sl) =>
  Lp (σ := (Int × Unit)) (fun K s_2 h22 =>
  cond (decide (s_2.1 < (((x132.n : Nat) : Int))))
  (Ld h22 (Addr.add (⟨r7, 0, none⟩) 5) .sl fun (x138 : Sl) =>
  Ix x138 s_2.1 1 fun a140 =>
  Ld h22 a140 .sl fun (x141 : Sl) =>
  Ld h22 (Addr.add (⟨r53, 0, none⟩) 3) .sl fun (x146 : Sl) =>
  Ix x146 s_2.1 1 fun a148 =>
  Ld h22 a148 .sl fun (x149 : Sl) =>
  cond ((((x141.n : Nat) : Int)) != (((x149.n : Nat) : Int)))
  (Wk h22 fun h23 => R (.bool false) h23)
  (Ld h22 (Addr.add (⟨r7, 0, none⟩) 5) .sl fun (x153 : Sl) =>
  Ix x153 s_2.1 1 fun a155 =>
  Ld h22 a155 .sl fun (x156 : Sl) =>
  Lp (σ := (Int × Unit)) (fun K_1 s_3 h24 =>
  cond (decide (s_3.1 < (((x156.n : Nat) : Int))))
  (Ld h24 (Addr.add (⟨r7, 0, none⟩) 5) .sl fun (x162 : Sl) =>
  Ix x162 s_2.1 1 fun a164 =>
  Ld h24 a164 .sl fun (x165 : Sl) =>
  Ix x165 s_3.1 1 fun a167 =>
  Ld h24 a167 (.int .i64) fun (x168 : Int) =>
  Ld h24 (Addr.add (⟨r53, 0, none⟩) 3) .sl fun (x172 : Sl) =>
  Ix x172 s_2.1 1 fun a174 =>
  Ld h24 a174 .sl fun (x175 : Sl) =>
  Ix x175 s_3.1 1 fun a177 =>
  Ld h24 a177 (.int .i64) fun (x178 : Int) =>
  cond (x168 != x178)
  (Wk h24 fun h25 => R (.bool false) h25)
  (Wk h24 fun h26 => K_1 (IntKind.wrap .i64 (s_3.1 + ((1 : Int))), ()) h26))
  (Wk h24 fun h27 => K (IntKind.wrap .i64 (s_2.1 + ((1 : Int))), ()) h27))
  ((0 : Int), ()) h22))
  (Wk h22 fun h28 => R (.bool true) h28))
  ((0 : Int), ()) h21) fun J_1 =>
  cond (x29.2.1 != ((0 : Int)))
  (Wk h15 fun h29 => R (.bool false) h29)
  (Ld h15 (Addr.add (⟨r7, 0, none⟩) 1) (.int .i64) fun (x85 : Int) =>
  Ld h15 (Addr.add (⟨r53, 0, none⟩) 6) (.int .i64) fun (x89 : Int) =>
  cond (x85 != x89)
  (Wk h15 fun h30 => R (.bool false) h30)
  (Ld h15 (Addr.add (⟨r7, 0, none⟩) 0) (.int .i64) fun (x94 : Int) =>
  cond (x94 != x58.1)
  (Wk h15 fun h31 => R (.bool false) h31)
  (Ld h15 (Addr.add (⟨r7, 0, none⟩) 2) .sl fun (x100 : Sl) =>
  Ld h15 (Addr.add (⟨r53, 0, none⟩) 4) .sl fun (x104 : Sl) =>
  CallK Try.prog 21 [(.slice x100.a x100.n x100.c), (.slice x104.a x104.n x104.c)] h15 (.un (.one .bool)) fun (x105 : Bool) h32 =>
  cond (!x105)
  (Wk h32 fun h33 => R (.bool false) h33)
  (Ld h32 (Addr.add (⟨r7, 0, none⟩) 3) (.int .i64) fun (x110 : Int) =>
  Ld h32 (Addr.add (⟨r53, 0, none⟩) 5) (.int .i64) fun (x116 : Int) =>
  cond (x110 != (IntKind.wrap .i64 ((bits .and .i64 p2 ((1023 : Int))) - x116)))
  (Wk h32 fun h34 => R (.bool false) h34)
  (Ld h32 (Addr.add (⟨r7, 0, none⟩) 5) .sl fun (x122 : Sl) =>
  Ld h32 (Addr.add (⟨r53, 0, none⟩) 3) .sl fun (x127 : Sl) =>
  cond ((((x122.n : Nat) : Int)) != (((x127.n : Nat) : Int)))
  (Wk h32 fun h35 => R (.bool false) h35)
  (Wk h32 fun h36 => J_1 (()) h36)))))))))) fun J =>
  LdA h2 (⟨r3, 0, none⟩) [.sl, .sl, (.int .i64)] fun (x16 : ((Sl) × (Sl) × (Int) × Unit)) =>
  CallK Try.prog 14 [(.agg ⟨[(.slice x16.1.a x16.1.n x16.1.c), (.slice x16.2.1.a x16.2.1.n x16.2.1.c), (.int .i64 x16.2.2.1)]⟩)] h2 (.un (.one .bool)) fun (x17 : Bool) h37 =>
  cond (!x17)
  (Wk h37 fun h38 => R (.bool true) h38)
  (CallK Try.prog 15 [(.slice p1.a p1.n p1.c)] h37 (.un (.one .bool)) fun (x21 : Bool) h39 =>
  cond (!x21)
  (Wk h39 fun h40 => R (.bool true) h40)
  (Wk h39 fun h41 => J (()) h41)))
theorem S3_eq (p0_0 : Sl) (p0_1 : Sl) (p0_2 : Int) (p1 : Sl) (p2 : Int) (h : V) (R : Value → V → Prop) : ABody Try.prog an3 Try.f3 [(.agg ⟨[(.slice p0_0.a p0_0.n p0_0.c), (.slice p0_1.a p0_1.n p0_1.c), (.int .i64 p0_2)]⟩), (.slice p1.a p1.n p1.c), (.int .i64 p2)] h R = S3 p0_0 p0_1 p0_2 p1 p2 h R := by kernel_rfl
theorem S3_ok (p0_0 : Sl) (p0_1 : Sl) (p0_2 : Int) (p1 : Sl) (p2 : Int) (h : V) (R : Value → V → Prop) (hk : S3 p0_0 p0_1 p0_2 p1 p2 h R) : ACalls Try.prog 3 [(.agg ⟨[(.slice p0_0.a p0_0.n p0_0.c), (.slice p0_1.a p0_1.n p0_1.c), (.int .i64 p0_2)]⟩), (.slice p1.a p1.n p1.c), (.int .i64 p2)] h R :=
  ABody_sound mixed Try.func3 Try.call3 (by kernel_rfl) (by kernel_rfl) (an := an3) (by rw [S3_eq]; exact hk)

/- palings/palingslaw08.SimSwaps -/
def an4 : An := (.two .nil (.two (.two .nil (.two (.two .nil .nil) .nil)) (.two .nil (.two .nil (.two .nil (.two .nil (.cut [(10, (.one (.int .i64)))] (.two .nil (.two .nil .nil)) (.two .nil .nil))))))))
def S4 (p0 : Int) (p1 : Int) (p2 : Int) (h : V) (R : Value → V → Prop) : Prop :=
  CallK Try.prog 13 [] h (.un (.one .bool)) fun (x11 : Bool) h1 =>
  cond (!x11)
  (Wk h1 fun h2 => R (.bool false) h2)
  (New h1 (.cells #[(.int .i64 ((1 : Int))), (.int .i64 ((1 : Int))), (.slice none 0 0), (.int .i64 p0), (.int .i64 ((0 : Int))), (.int .i64 ((0 : Int))), (.int .i64 ((0 : Int))), (.int .i64 ((1 : Int))), (.int .i64 ((2 : Int))), (.slice none 0 0), (.int .i64 p1), (.int .i64 ((0 : Int))), (.int .i64 ((0 : Int))), (.int .i64 ((0 : Int))), (.int .i64 ((1 : Int))), (.int .i64 ((3 : Int))), (.slice none 0 0), (.int .i64 (bits .and .i64 p2 ((63 : Int)))), (.int .i64 ((0 : Int))), (.int .i64 ((0 : Int))), (.int .i64 ((0 : Int))), (.int .i64 ((1 : Int))), (.int .i64 ((4 : Int))), (.slice none 0 0), (.int .i64 ((1 : Int))), (.int .i64 ((0 : Int))), (.int .i64 ((0 : Int))), (.int .i64 ((0 : Int)))] 51) fun r22 h3 =>
  New h3 (.cells #[(.int .i64 ((1 : Int))), (.int .i64 ((2 : Int))), (.int .i64 ((3 : Int)))] 3) fun r23 h4 =>
  New h4 (.cells #[(.int .i64 ((1 : Int))), (.slice ((some ⟨r23, 0, none⟩)) 3 3)] 55) fun r25 h5 =>
  New h5 (.cells #[(.int .i64 ((5 : Int))), (.int .i64 ((6 : Int))), (.int .i64 ((7 : Int)))] 3) fun r28 h6 =>
  New h6 (.cells #[(.int .i64 ((2 : Int))), (.slice none 0 0), (.int .i64 ((3 : Int))), (.slice none 0 0)] 55) fun r31 h7 =>
  New h7 (.cells #[(.int .i64 ((7 : Int))), (.int .i64 ((4 : Int)))] 3) fun r34 h8 =>
  New h8 (.cells #[(.int .i64 ((2 : Int))), (.int .i64 ((8 : Int))), (.slice ((some ⟨r34, 0, none⟩)) 2 2), (.int .i64 ((0 : Int))), (.int .i64 ((2 : Int))), (.int .i64 ((0 : Int))), (.int .i64 ((0 : Int)))] 51) fun r36 h9 =>
  New h9 (.cells #[(.int .i64 ((6 : Int))), (.int .i64 ((5 : Int))), (.int .i64 ((8 : Int)))] 3) fun r37 h10 =>
  New h10 (.cells #[(.int .i64 ((1 : Int))), (.slice ((some ⟨r37, 0, none⟩)) 3 3)] 55) fun r39 h11 =>
  New h11 (.cells #[(.slice none 0 0), (.slice ((some ⟨r22, 0, none⟩)) 4 4), (.int .i64 ((1 : Int))), (.int .i64 ((0 : Int))), (.slice ((some ⟨r25, 0, none⟩)) 1 1), (.int .i64 ((0 : Int))), (.slice ((some ⟨r28, 0, none⟩)) 3 3), (.slice none 0 0), (.int .i64 ((2 : Int))), (.int .i64 ((7 : Int))), (.slice ((some ⟨r31, 0, none⟩)) 2 2), (.int .i64 ((0 : Int))), (.slice none 0 0), (.slice ((some ⟨r36, 0, none⟩)) 1 1), (.int .i64 ((1 : Int))), (.int .i64 ((0 : Int))), (.slice ((some ⟨r39, 0, none⟩)) 1 1), (.int .i64 ((0 : Int))), (.slice none 0 0), (.slice none 0 0), (.int .i64 ((3 : Int))), (.int .i64 ((5 : Int))), (.slice none 0 0), (.int .i64 ((0 : Int)))] 60) fun r44 h12 =>
  New h12 (.cells #[(.string (⟨#[]⟩)), (.slice ((some ⟨r44, 0, none⟩)) 4 4)] 63) fun r46 h13 =>
  New h13 (.cells #[(.slice none 0 0), (.slice none 0 0), (.int .i64 ((0 : Int)))] 25) fun r7 h14 =>
  StL h14 (⟨r7, 0, none⟩) 0 [(.slice none 0 0), (.slice ((some ⟨r46, 0, none⟩)) 1 1), (.int .i64 ((0 : Int)))] fun h15 =>
  LdA h15 (⟨r7, 0, none⟩) [.sl, .sl, (.int .i64)] fun (x49 : ((Sl) × (Sl) × (Int) × Unit)) =>
  CallK Try.prog 16 [(.agg ⟨[(.slice x49.1.a x49.1.n x49.1.c), (.slice x49.2.1.a x49.2.1.n x49.2.1.c), (.int .i64 x49.2.2.1)]⟩), (.slice none 0 0), (.int .i64 ((1000 : Int)))] h15 (.tup [(.agg [(.int .i64), (.int .i64), .sl, (.int .i64), (.int .i64), .sl]), (.one (.int .i64))]) fun (x50 : (((Int) × (Int) × (Sl) × (Int) × (Int) × (Sl) × Unit) × Int × Unit)) h16 =>
  New h16 (.cells #[(.int .i64 ((0 : Int))), (.int .i64 ((0 : Int))), (.slice none 0 0), (.int .i64 ((0 : Int))), (.int .i64 ((0 : Int))), (.slice none 0 0)] 33) fun r8 h17 =>
  StL h17 (⟨r8, 0, none⟩) 0 [(.int .i64 x50.1.1), (.int .i64 x50.1.2.1), (.slice x50.1.2.2.1.a x50.1.2.2.1.n x50.1.2.2.1.c), (.int .i64 x50.1.2.2.2.1), (.int .i64 x50.1.2.2.2.2.1), (.slice x50.1.2.2.2.2.2.1.a x50.1.2.2.2.2.2.1.n x50.1.2.2.2.2.2.1.c)] fun h18 =>
  Cut (σ := (Int × Unit)) (fun s h19 =>
  cond (x50.2.1 == ((0 : Int)))
  (Ld h19 (Addr.add (⟨r8, 0, none⟩) 0) (.int .i64) fun (x62 : Int) =>
  cond (x62 == s.1)
  (Ld h19 (Addr.add (⟨r8, 0, none⟩) 2) .sl fun (x68 : Sl) =>
  cond ((((x68.n : Nat) : Int)) == (IntKind.wrap .i64 ((bits .and .i64 p2 ((63 : Int))) + ((1 : Int)))))
  (Ld h19 (Addr.add (⟨r8, 0, none⟩) 3) (.int .i64) fun (x76 : Int) =>
  Wk h19 fun h20 => R (.bool (x76 == (IntKind.wrap .i64 ((IntKind.wrap .i64 (((5 : Int)) + (IntKind.wrap .i64 ((bits .and .i64 p2 ((63 : Int))) * ((3 : Int)))))) + ((2 : Int)))))) h20)
  (Wk h19 fun h21 => R (.bool false) h21))
  (Wk h19 fun h22 => R (.bool false) h22))
  (Wk h19 fun h23 => R (.bool false) h23)) fun J =>
  (((2 : Int)) ≠ 0) ∧
  cond ((Int.tmod (bits .and .i64 p2 ((63 : Int))) ((2 : Int))) == ((1 : Int)))
  (Wk h18 fun h24 => J (p1, ()) h24)
  (Wk h18 fun h25 => J (p0, ()) h25))
theorem S4_eq (p0 : Int) (p1 : Int) (p2 : Int) (h : V) (R : Value → V → Prop) : ABody Try.prog an4 Try.f4 [(.int .i64 p0), (.int .i64 p1), (.int .i64 p2)] h R = S4 p0 p1 p2 h R := by kernel_rfl
theorem S4_ok (p0 : Int) (p1 : Int) (p2 : Int) (h : V) (R : Value → V → Prop) (hk : S4 p0 p1 p2 h R) : ACalls Try.prog 4 [(.int .i64 p0), (.int .i64 p1), (.int .i64 p2)] h R :=
  ABody_sound mixed Try.func4 Try.call4 (by kernel_rfl) (by kernel_rfl) (an := an4) (by rw [S4_eq]; exact hk)

/- palings/palingslaw08.SimDeep -/
def an5 : An := (.two .nil (.two (.two .nil (.two (.two .nil .nil) .nil)) (.two .nil (.two .nil (.two .nil (.two (.two .nil (.two (.two .nil .nil) .nil)) (.two .nil .nil)))))))
def S5 (p0 : Int) (h : V) (R : Value → V → Prop) : Prop :=
  CallK Try.prog 13 [] h (.un (.one .bool)) fun (x6 : Bool) h1 =>
  cond (!x6)
  (Wk h1 fun h2 => R (.bool false) h2)
  (New h1 (.cells #[(.int .i64 ((1 : Int)))] 3) fun r10 h3 =>
  New h3 (.cells #[(.int .i64 ((1 : Int))), (.slice none 0 0), (.int .i64 ((2 : Int))), (.slice none 0 0)] 55) fun r13 h4 =>
  New h4 (.cells #[(.int .i64 ((1 : Int))), (.int .i64 ((2 : Int)))] 3) fun r17 h5 =>
  New h5 (.cells #[(.int .i64 ((3 : Int)))] 3) fun r19 h6 =>
  New h6 (.cells #[(.int .i64 ((4 : Int))), (.int .i64 ((2 : Int)))] 3) fun r21 h7 =>
  New h7 (.cells #[(.int .i64 ((1 : Int))), (.int .i64 ((2 : Int))), (.slice none 0 0), (.int .i64 ((1 : Int))), (.int .i64 ((0 : Int))), (.int .i64 ((0 : Int))), (.int .i64 ((0 : Int))), (.int .i64 ((2 : Int))), (.int .i64 ((3 : Int))), (.slice ((some ⟨r17, 0, none⟩)) 2 2), (.int .i64 ((0 : Int))), (.int .i64 ((2 : Int))), (.int .i64 ((0 : Int))), (.int .i64 ((0 : Int))), (.int .i64 ((7 : Int))), (.int .i64 ((4 : Int))), (.slice ((some ⟨r19, 0, none⟩)) 1 1), (.int .i64 ((0 : Int))), (.int .i64 ((0 : Int))), (.int .i64 ((0 : Int))), (.int .i64 ((0 : Int))), (.int .i64 ((2 : Int))), (.int .i64 ((5 : Int))), (.slice ((some ⟨r21, 0, none⟩)) 2 2), (.int .i64 ((0 : Int))), (.int .i64 ((1 : Int))), (.int .i64 ((0 : Int))), (.int .i64 ((0 : Int)))] 51) fun r23 h8 =>
  New h8 (.cells #[(.slice ((some ⟨r10, 0, none⟩)) 1 1), (.slice none 0 0), (.int .i64 ((2 : Int))), (.int .i64 ((1 : Int))), (.slice ((some ⟨r13, 0, none⟩)) 2 2), (.int .i64 ((0 : Int))), (.slice none 0 0), (.slice ((some ⟨r23, 0, none⟩)) 4 4), (.int .i64 ((3 : Int))), (.int .i64 ((5 : Int))), (.slice none 0 0), (.int .i64 ((0 : Int))), (.slice none 0 0), (.slice none 0 0), (.int .i64 ((3 : Int))), (.int .i64 ((1 : Int))), (.slice none 0 0), (.int .i64 ((0 : Int)))] 60) fun r28 h9 =>
  New h9 (.cells #[(.int .i64 ((1 : Int)))] 3) fun r32 h10 =>
  New h10 (.cells #[(.int .i64 ((1 : Int))), (.int .i64 ((1 : Int))), (.slice none 0 0), (.int .i64 (bits .and .i64 p0 ((4095 : Int)))), (.int .i64 ((0 : Int))), (.int .i64 ((0 : Int))), (.int .i64 ((0 : Int))), (.int .i64 ((7 : Int))), (.int .i64 ((2 : Int))), (.slice ((some ⟨r32, 0, none⟩)) 1 1), (.int .i64 ((0 : Int))), (.int .i64 ((0 : Int))), (.int .i64 ((0 : Int))), (.int .i64 ((0 : Int)))] 51) fun r34 h11 =>
  New h11 (.cells #[(.slice none 0 0), (.slice ((some ⟨r34, 0, none⟩)) 2 2), (.int .i64 ((3 : Int))), (.int .i64 ((2 : Int))), (.slice none 0 0), (.int .i64 ((0 : Int)))] 60) fun r37 h12 =>
  New h12 (.cells #[(.string (⟨#[]⟩)), (.slice ((some ⟨r28, 0, none⟩)) 3 3), (.string (⟨#[]⟩)), (.slice ((some ⟨r37, 0, none⟩)) 1 1)] 63) fun r39 h13 =>
  New h13 (.cells #[(.slice none 0 0), (.slice none 0 0), (.int .i64 ((0 : Int)))] 25) fun r3 h14 =>
  StL h14 (⟨r3, 0, none⟩) 0 [(.slice none 0 0), (.slice ((some ⟨r39, 0, none⟩)) 2 2), (.int .i64 ((1 : Int)))] fun h15 =>
  LdA h15 (⟨r3, 0, none⟩) [.sl, .sl, (.int .i64)] fun (x42 : ((Sl) × (Sl) × (Int) × Unit)) =>
  CallK Try.prog 16 [(.agg ⟨[(.slice x42.1.a x42.1.n x42.1.c), (.slice x42.2.1.a x42.2.1.n x42.2.1.c), (.int .i64 x42.2.2.1)]⟩), (.slice none 0 0), (.int .i64 ((1048576 : Int)))] h15 (.tup [(.agg [(.int .i64), (.int .i64), .sl, (.int .i64), (.int .i64), .sl]), (.one (.int .i64))]) fun (x43 : (((Int) × (Int) × (Sl) × (Int) × (Int) × (Sl) × Unit) × Int × Unit)) h16 =>
  New h16 (.cells #[(.int .i64 ((0 : Int))), (.int .i64 ((0 : Int))), (.slice none 0 0), (.int .i64 ((0 : Int))), (.int .i64 ((0 : Int))), (.slice none 0 0)] 33) fun r4 h17 =>
  StL h17 (⟨r4, 0, none⟩) 0 [(.int .i64 x43.1.1), (.int .i64 x43.1.2.1), (.slice x43.1.2.2.1.a x43.1.2.2.1.n x43.1.2.2.1.c), (.int .i64 x43.1.2.2.2.1), (.int .i64 x43.1.2.2.2.2.1), (.slice x43.1.2.2.2.2.2.1.a x43.1.2.2.2.2.2.1.n x43.1.2.2.2.2.2.1.c)] fun h18 =>
  cond (decide ((IntKind.wrap .i64 ((bits .and .i64 p0 ((4095 : Int))) + ((2 : Int)))) > ((2000 : Int))))
  (Wk h18 fun h19 => R (.bool (x43.2.1 == ((41 : Int)))) h19)
  (cond (x43.2.1 == ((0 : Int)))
  (Ld h18 (Addr.add (⟨r4, 0, none⟩) 0) (.int .i64) fun (x55 : Int) =>
  cond (x55 == (bits .and .i64 p0 ((4095 : Int))))
  (Ld h18 (Addr.add (⟨r4, 0, none⟩) 4) (.int .i64) fun (x61 : Int) =>
  Wk h18 fun h20 => R (.bool (x61 == (IntKind.wrap .i64 ((bits .and .i64 p0 ((4095 : Int))) + ((2 : Int)))))) h20)
  (Wk h18 fun h21 => R (.bool false) h21))
  (Wk h18 fun h22 => R (.bool false) h22)))
theorem S5_eq (p0 : Int) (h : V) (R : Value → V → Prop) : ABody Try.prog an5 Try.f5 [(.int .i64 p0)] h R = S5 p0 h R := by kernel_rfl
theorem S5_ok (p0 : Int) (h : V) (R : Value → V → Prop) (hk : S5 p0 h R) : ACalls Try.prog 5 [(.int .i64 p0)] h R :=
  ABody_sound mixed Try.func5 Try.call5 (by kernel_rfl) (by kernel_rfl) (an := an5) (by rw [S5_eq]; exact hk)

/- palings/palingslaw08.SimFuel -/
def an6 : An := (.two .nil (.two (.two .nil (.two (.two .nil .nil) .nil)) (.cut [] (.two .nil (.two (.two .nil .nil) .nil)) (.two .nil (.two .nil (.two .nil (.two (.two .nil (.two (.two .nil .nil) .nil)) (.two .nil (.two .nil (.two .nil .nil))))))))))
def S6 (p0_0 : Sl) (p0_1 : Sl) (p0_2 : Int) (p1 : Sl) (p2 : Int) (p3 : Int) (h : V) (R : Value → V → Prop) : Prop :=
  New h (.cells #[(.slice p0_0.a p0_0.n p0_0.c), (.slice p0_1.a p0_1.n p0_1.c), (.int .i64 p0_2)] 25) fun r4 h1 =>
  CallK Try.prog 13 [] h1 (.un (.one .bool)) fun (x17 : Bool) h2 =>
  cond (!x17)
  (Wk h2 fun h3 => R (.bool false) h3)
  (Cut (σ := (Unit)) (fun _ h4 =>
  LdA h4 (⟨r4, 0, none⟩) [.sl, .sl, (.int .i64)] fun (x30 : ((Sl) × (Sl) × (Int) × Unit)) =>
  CallK Try.prog 16 [(.agg ⟨[(.slice x30.1.a x30.1.n x30.1.c), (.slice x30.2.1.a x30.2.1.n x30.2.1.c), (.int .i64 x30.2.2.1)]⟩), (.slice p1.a p1.n p1.c), (.int .i64 (bits .and .i64 p2 ((511 : Int))))] h4 (.tup [(.agg [(.int .i64), (.int .i64), .sl, (.int .i64), (.int .i64), .sl]), (.one (.int .i64))]) fun (x33 : (((Int) × (Int) × (Sl) × (Int) × (Int) × (Sl) × Unit) × Int × Unit)) h5 =>
  New h5 (.cells #[(.int .i64 ((0 : Int))), (.int .i64 ((0 : Int))), (.slice none 0 0), (.int .i64 ((0 : Int))), (.int .i64 ((0 : Int))), (.slice none 0 0)] 33) fun r9 h6 =>
  StL h6 (⟨r9, 0, none⟩) 0 [(.int .i64 x33.1.1), (.int .i64 x33.1.2.1), (.slice x33.1.2.2.1.a x33.1.2.2.1.n x33.1.2.2.1.c), (.int .i64 x33.1.2.2.2.1), (.int .i64 x33.1.2.2.2.2.1), (.slice x33.1.2.2.2.2.2.1.a x33.1.2.2.2.2.2.1.n x33.1.2.2.2.2.2.1.c)] fun h7 =>
  LdA h7 (⟨r4, 0, none⟩) [.sl, .sl, (.int .i64)] fun (x37 : ((Sl) × (Sl) × (Int) × Unit)) =>
  CallK Try.prog 16 [(.agg ⟨[(.slice x37.1.a x37.1.n x37.1.c), (.slice x37.2.1.a x37.2.1.n x37.2.1.c), (.int .i64 x37.2.2.1)]⟩), (.slice p1.a p1.n p1.c), (.int .i64 (IntKind.wrap .i64 ((bits .and .i64 p2 ((511 : Int))) + (bits .and .i64 p3 ((511 : Int))))))] h7 (.tup [(.agg [(.int .i64), (.int .i64), .sl, (.int .i64), (.int .i64), .sl]), (.one (.int .i64))]) fun (x43 : (((Int) × (Int) × (Sl) × (Int) × (Int) × (Sl) × Unit) × Int × Unit)) h8 =>
  New h8 (.cells #[(.int .i64 ((0 : Int))), (.int .i64 ((0 : Int))), (.slice none 0 0), (.int .i64 ((0 : Int))), (.int .i64 ((0 : Int))), (.slice none 0 0)] 33) fun r11 h9 =>
  StL h9 (⟨r11, 0, none⟩) 0 [(.int .i64 x43.1.1), (.int .i64 x43.1.2.1), (.slice x43.1.2.2.1.a x43.1.2.2.1.n x43.1.2.2.1.c), (.int .i64 x43.1.2.2.2.1), (.int .i64 x43.1.2.2.2.2.1), (.slice x43.1.2.2.2.2.2.1.a x43.1.2.2.2.2.2.1.n x43.1.2.2.2.2.2.1.c)] fun h10 =>
  cond (x33.2.1 != ((0 : Int)))
  (cond (x33.2.1 == ((41 : Int)))
  (Ld h10 (Addr.add (⟨r9, 0, none⟩) 3) (.int .i64) fun (x52 : Int) =>
  Wk h10 fun h11 => R (.bool (x52 == ((0 : Int)))) h11)
  (Wk h10 fun h12 => R (.bool false) h12))
  (LdA h10 (⟨r4, 0, none⟩) [.sl, .sl, (.int .i64)] fun (x56 : ((Sl) × (Sl) × (Int) × Unit)) =>
  Ld h10 (Addr.add (⟨r9, 0, none⟩) 3) (.int .i64) fun (x59 : Int) =>
  CallK Try.prog 16 [(.agg ⟨[(.slice x56.1.a x56.1.n x56.1.c), (.slice x56.2.1.a x56.2.1.n x56.2.1.c), (.int .i64 x56.2.2.1)]⟩), (.slice p1.a p1.n p1.c), (.int .i64 x59)] h10 (.tup [(.agg [(.int .i64), (.int .i64), .sl, (.int .i64), (.int .i64), .sl]), (.one (.int .i64))]) fun (x60 : (((Int) × (Int) × (Sl) × (Int) × (Int) × (Sl) × Unit) × Int × Unit)) h13 =>
  New h13 (.cells #[(.int .i64 ((0 : Int))), (.int .i64 ((0 : Int))), (.slice none 0 0), (.int .i64 ((0 : Int))), (.int .i64 ((0 : Int))), (.slice none 0 0)] 33) fun r13 h14 =>
  StL h14 (⟨r13, 0, none⟩) 0 [(.int .i64 x60.1.1), (.int .i64 x60.1.2.1), (.slice x60.1.2.2.1.a x60.1.2.2.1.n x60.1.2.2.1.c), (.int .i64 x60.1.2.2.2.1), (.int .i64 x60.1.2.2.2.2.1), (.slice x60.1.2.2.2.2.2.1.a x60.1.2.2.2.2.2.1.n x60.1.2.2.2.2.2.1.c)] fun h15 =>
  LdA h15 (⟨r4, 0, none⟩) [.sl, .sl, (.int .i64)] fun (x64 : ((Sl) × (Sl) × (Int) × Unit)) =>
  Ld h15 (Addr.add (⟨r9, 0, none⟩) 3) (.int .i64) fun (x67 : Int) =>
  CallK Try.prog 16 [(.agg ⟨[(.slice x64.1.a x64.1.n x64.1.c), (.slice x64.2.1.a x64.2.1.n x64.2.1.c), (.int .i64 x64.2.2.1)]⟩), (.slice p1.a p1.n p1.c), (.int .i64 (IntKind.wrap .i64 (x67 - ((1 : Int)))))] h15 (.tup [(.agg [(.int .i64), (.int .i64), .sl, (.int .i64), (.int .i64), .sl]), (.one (.int .i64))]) fun (x69 : (((Int) × (Int) × (Sl) × (Int) × (Int) × (Sl) × Unit) × Int × Unit)) h16 =>
  New h16 (.cells #[(.int .i64 ((0 : Int))), (.int .i64 ((0 : Int))), (.slice none 0 0), (.int .i64 ((0 : Int))), (.int .i64 ((0 : Int))), (.slice none 0 0)] 33) fun r15 h17 =>
  StL h17 (⟨r15, 0, none⟩) 0 [(.int .i64 x69.1.1), (.int .i64 x69.1.2.1), (.slice x69.1.2.2.1.a x69.1.2.2.1.n x69.1.2.2.1.c), (.int .i64 x69.1.2.2.2.1), (.int .i64 x69.1.2.2.2.2.1), (.slice x69.1.2.2.2.2.2.1.a x69.1.2.2.2.2.2.1.n x69.1.2.2.2.2.2.1.c)] fun h18 =>
  cond (x43.2.1 == ((0 : Int)))
  (cond (x60.2.1 == ((0 : Int)))
  (cond (x69.2.1 == ((41 : Int)))
  (Ld h18 (Addr.add (⟨r9, 0, none⟩) 0) (.int .i64) fun (x84 : Int) =>
  Ld h18 (Addr.add (⟨r11, 0, none⟩) 0) (.int .i64) fun (x86 : Int) =>
  cond (x84 == x86)
  (Ld h18 (Addr.add (⟨r9, 0, none⟩) 3) (.int .i64) fun (x91 : Int) =>
  Ld h18 (Addr.add (⟨r11, 0, none⟩) 3) (.int .i64) fun (x93 : Int) =>
  cond (x91 == x93)
  (Ld h18 (Addr.add (⟨r9, 0, none⟩) 1) (.int .i64) fun (x98 : Int) =>
  Ld h18 (Addr.add (⟨r11, 0, none⟩) 1) (.int .i64) fun (x100 : Int) =>
  cond (x98 == x100)
  (Ld h18 (Addr.add (⟨r9, 0, none⟩) 2) .sl fun (x105 : Sl) =>
  Ld h18 (Addr.add (⟨r11, 0, none⟩) 2) .sl fun (x107 : Sl) =>
  CallK Try.prog 21 [(.slice x105.a x105.n x105.c), (.slice x107.a x107.n x107.c)] h18 (.un (.one .bool)) fun (x108 : Bool) h19 =>
  cond x108
  (Ld h19 (Addr.add (⟨r13, 0, none⟩) 0) (.int .i64) fun (x112 : Int) =>
  Ld h19 (Addr.add (⟨r9, 0, none⟩) 0) (.int .i64) fun (x114 : Int) =>
  cond (x112 == x114)
  (Ld h19 (Addr.add (⟨r13, 0, none⟩) 3) (.int .i64) fun (x119 : Int) =>
  Ld h19 (Addr.add (⟨r9, 0, none⟩) 3) (.int .i64) fun (x121 : Int) =>
  Wk h19 fun h20 => R (.bool (x119 == x121)) h20)
  (Wk h19 fun h21 => R (.bool false) h21))
  (Wk h19 fun h22 => R (.bool false) h22))
  (Wk h18 fun h23 => R (.bool false) h23))
  (Wk h18 fun h24 => R (.bool false) h24))
  (Wk h18 fun h25 => R (.bool false) h25))
  (Wk h18 fun h26 => R (.bool false) h26))
  (Wk h18 fun h27 => R (.bool false) h27))
  (Wk h18 fun h28 => R (.bool false) h28))) fun J =>
  CallK Try.prog 15 [(.slice p1.a p1.n p1.c)] h2 (.un (.one .bool)) fun (x20 : Bool) h29 =>
  cond (!x20)
  (Wk h29 fun h30 => R (.bool true) h30)
  (LdA h29 (⟨r4, 0, none⟩) [.sl, .sl, (.int .i64)] fun (x23 : ((Sl) × (Sl) × (Int) × Unit)) =>
  CallK Try.prog 18 [(.agg ⟨[(.slice x23.1.a x23.1.n x23.1.c), (.slice x23.2.1.a x23.2.1.n x23.2.1.c), (.int .i64 x23.2.2.1)]⟩)] h29 (.un (.one .bool)) fun (x24 : Bool) h31 =>
  cond (!x24)
  (Wk h31 fun h32 => R (.bool true) h32)
  (Wk h31 fun h33 => J (()) h33)))
theorem S6_eq (p0_0 : Sl) (p0_1 : Sl) (p0_2 : Int) (p1 : Sl) (p2 : Int) (p3 : Int) (h : V) (R : Value → V → Prop) : ABody Try.prog an6 Try.f6 [(.agg ⟨[(.slice p0_0.a p0_0.n p0_0.c), (.slice p0_1.a p0_1.n p0_1.c), (.int .i64 p0_2)]⟩), (.slice p1.a p1.n p1.c), (.int .i64 p2), (.int .i64 p3)] h R = S6 p0_0 p0_1 p0_2 p1 p2 p3 h R := by kernel_rfl
theorem S6_ok (p0_0 : Sl) (p0_1 : Sl) (p0_2 : Int) (p1 : Sl) (p2 : Int) (p3 : Int) (h : V) (R : Value → V → Prop) (hk : S6 p0_0 p0_1 p0_2 p1 p2 p3 h R) : ACalls Try.prog 6 [(.agg ⟨[(.slice p0_0.a p0_0.n p0_0.c), (.slice p0_1.a p0_1.n p0_1.c), (.int .i64 p0_2)]⟩), (.slice p1.a p1.n p1.c), (.int .i64 p2), (.int .i64 p3)] h R :=
  ABody_sound mixed Try.func6 Try.call6 (by kernel_rfl) (by kernel_rfl) (an := an6) (by rw [S6_eq]; exact hk)

end Go.Proofs.Ytapdnglpchejlaa
