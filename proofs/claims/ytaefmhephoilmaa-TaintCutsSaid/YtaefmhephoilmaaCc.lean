/- Contracts of package ssa: instructions and ends that are right. -/
import Derived.Test.YtaefmhephoilmaaCb
namespace Go.Proofs.Ytaefmhephoilmaa
open Go Go.VL

def shapeD (o : Int) : Int × Bool :=
  if o = 1 ∨ o = 3 then (0, true) else if o = 2 then (2, true) else if o = 4 then (1, false) else if o = 5 then (1, true) else if o = 6 then (2, false) else if o = 7 then (-1, true) else (-2, false)
theorem c_shape {h : V} {o : Int} {R : Value → V → Prop} (hR : R (.tuple ⟨[iV (shapeD o).1, .bool (shapeD o).2]⟩) h) : ACalls Try.prog 41 [iV o] h R := by
  refine S41_ok _ _ _ (Cut_i (fun s hh => s = (decide (o = 1 ∨ o = 3), ()) ∧ h = hh) (fun J hJ => ?_) ?_)
  · refine cond_eqi (fun e => Wk_self (hJ _ _ ⟨by simp [e], rfl⟩)) (fun e => Wk_self (hJ _ _ ⟨?_, rfl⟩))
    have : (o == 3) = decide (o = 1 ∨ o = 3) := by simp [e]; rfl
    rw [this]
  · rintro _ _ ⟨rfl, rfl⟩
    refine cond_dec (fun e => Wk_self ?_) (fun e => ?_)
    · simpa [shapeD, e] using hR
    refine cond_eqi (fun e2 => Wk_self ?_) (fun e2 => ?_)
    · simpa [shapeD, e2] using hR
    refine cond_eqi (fun e3 => Wk_self ?_) (fun e3 => ?_)
    · simpa [shapeD, e3] using hR
    refine cond_eqi (fun e4 => Wk_self ?_) (fun e4 => ?_)
    · simpa [shapeD, e4] using hR
    refine cond_eqi (fun e5 => Wk_self ?_) (fun e5 => ?_)
    · simpa [shapeD, e5] using hR
    refine cond_eqi (fun e6 => Wk_self ?_) (fun e6 => Wk_self ?_)
    · simpa [shapeD, e6] using hR
    · simpa [shapeD, e, e2, e3, e4, e5, e6] using hR
def knownB (b : Int) : Bool := decide (1 ≤ b) && decide (b ≤ 15)
theorem c_Known {h : V} {b : Int} {R : Value → V → Prop} (hR : R (.bool (knownB b)) h) : ACalls Try.prog 42 [iV b] h R := by
  refine S42_ok _ _ _ (cond_dec (fun e => Wk_self ?_) (fun e => Wk_self ?_))
  · simpa [knownB, show 1 ≤ b from e] using hR
  · simpa [knownB, show ¬ 1 ≤ b from e] using hR

def rightD (p : ProgD) (i : InsD) : Bool :=
  if (shapeD i.op).1 = -2 then false
  else if 0 ≤ (shapeD i.op).1 ∧ (i.args.length : Int) ≠ (shapeD i.op).1 then false
  else if (shapeD i.op).2 ≠ decide (i.dst > 0) then false
  else if i.dst < 0 then false
  else if i.op = 2 then knownB i.bin
  else if i.op = 3 ∨ i.op = 4 then decide (0 ≤ i.arr) && (match p.arrays[i.arr.toNat]? with
    | some a => a.size == 0
    | none => false)
  else if i.op = 5 ∨ i.op = 6 then decide (0 ≤ i.arr) && (match p.arrays[i.arr.toNat]? with
    | some a => decide (a.size > 0)
    | none => false)
  else if i.op = 7 then decide (0 ≤ i.fn) && (match p.funcs[i.fn.toNat]? with
    | some f => (match f.blocks with
      | b :: _ => i.args.length == b.params.length
      | [] => false)
    | none => false)
  else true

theorem ix_ge {α : Type} {rep : V → Addr → α → Prop} {sz : Nat} {h : V} {s : Sl} {xs : List α} (hs : isSl rep sz h s xs) {i : Int} (h1 : ¬ i < (s.n : Int)) (h0 : i ≥ 0) : xs[i.toNat]? = none := by
  apply List.getElem?_eq_none
  have := hs.len; omega
theorem ix_lt {α : Type} {rep : V → Addr → α → Prop} {sz : Nat} {h : V} {s : Sl} {xs : List α} (hs : isSl rep sz h s xs) {i : Int} (h1 : i < (s.n : Int)) (h0 : i ≥ 0) : i.toNat < xs.length := by
  have := hs.len; omega

theorem c_right {h : V} {p : ProgD} {sa sf : Sl} {i : InsD} {q : Sl} {R : Value → V → Prop} (ha : isArrs h sa p.arrays) (hf : isFuncs h sf p.funcs) (hq : isInts h q i.args)
    (hR : R (.bool (rightD p i)) h) : ACalls Try.prog 26 [.agg ⟨[sV sa, sV sf, iV p.main]⟩, .agg ⟨insV i q⟩] h R := by
  refine S26_ok _ _ _ _ _ _ _ _ _ _ _ _ (New_box fun r2 h1 hr2 l1 b2 => New_box fun r3 h2 hr3 l2 b3 => ?_)
  have l := l1.trans l2
  have b2 := b2.le l2
  refine ⟨_, b3.cell rfl, c_shape ⟨((shapeD i.op).1, (shapeD i.op).2, ()), rfl, ?_⟩⟩
  have hB : ∀ b, rightD p i = b → Wk h2 fun h' => R (.bool b) h' := fun b e => ⟨h, l, by rw [← e]; exact hR⟩
  refine Cut_i (fun _ hh => h2 = hh ∧ (shapeD i.op).1 ≠ -2 ∧ ¬ (0 ≤ (shapeD i.op).1 ∧ (i.args.length : Int) ≠ (shapeD i.op).1) ∧ (shapeD i.op).2 = decide (i.dst > 0) ∧ ¬ i.dst < 0) (fun J hJ => ?_) ?_
  · refine cond_eqi (fun e => hB _ (by simp [rightD, show (shapeD i.op).1 = -2 from e])) (fun e => ?_)
    have rest : ¬ (0 ≤ (shapeD i.op).1 ∧ (i.args.length : Int) ≠ (shapeD i.op).1) → ∀ x : Int, x = i.dst →
        cond (!((shapeD i.op).2 == decide (x > 0))) (Wk h2 fun h' => R (.bool false) h') (Ld h2 (Addr.add ⟨r3, 0, none⟩ 1) (.int .i64) fun (y : Int) => cond (decide (y < 0)) (Wk h2 fun h' => R (.bool false) h') (Wk h2 fun h' => J () h')) := by
      rintro hn x rfl
      refine cond_not (fun e2 => hB _ ?_) (fun e2 => ?_)
      · have : (shapeD i.op).2 ≠ decide (i.dst > 0) := by simpa using e2
        simp only [rightD, if_neg e, if_neg hn, if_pos this]
      · have e2 : (shapeD i.op).2 = decide (i.dst > 0) := by simpa using e2
        refine ⟨_, b3.cell rfl, cond_dec (fun e3 => hB _ ?_) (fun e3 => Wk_self (hJ _ _ ⟨rfl, e, hn, e2, e3⟩))⟩
        have e3 : i.dst < 0 := e3
        have e2' : ¬ (shapeD i.op).2 ≠ decide (i.dst > 0) := fun x => x e2
        simp only [rightD, if_neg e, if_neg hn, if_neg e2', if_pos e3]
    refine cond_dec (fun e1 => ?_) (fun e1 => ?_)
    · refine ⟨q, b3.cell rfl, cond_nei (fun e2 => hB _ ?_) (fun e2 => ?_)⟩
      · have : 0 ≤ (shapeD i.op).1 ∧ (i.args.length : Int) ≠ (shapeD i.op).1 := ⟨e1, by rw [← hq.len]; exact e2⟩
        simp only [rightD, if_neg e, if_pos this]
      · exact ⟨_, b3.cell rfl, rest (fun x => x.2 (by rw [← hq.len]; exact e2)) _ rfl⟩
    · exact ⟨_, b3.cell rfl, rest (fun x => e1 x.1) _ rfl⟩
  · rintro _ _ ⟨rfl, g1, g2, g3, g4⟩
    have g3' : ¬ (shapeD i.op).2 ≠ decide (i.dst > 0) := fun x => x g3
    have base : rightD p i = (if i.op = 2 then knownB i.bin
      else if i.op = 3 ∨ i.op = 4 then decide (0 ≤ i.arr) && (match p.arrays[i.arr.toNat]? with
        | some a => a.size == 0
        | none => false)
      else if i.op = 5 ∨ i.op = 6 then decide (0 ≤ i.arr) && (match p.arrays[i.arr.toNat]? with
        | some a => decide (a.size > 0)
        | none => false)
      else if i.op = 7 then decide (0 ≤ i.fn) && (match p.funcs[i.fn.toNat]? with
        | some f => (match f.blocks with
          | b :: _ => i.args.length == b.params.length
          | [] => false)
        | none => false)
      else true) := by simp only [rightD, if_neg g1, if_neg g2, if_neg g3', if_neg g4]
    refine ⟨_, b3.cell rfl, cond_eqi (fun e2 => ?_) (fun e2 => ?_)⟩
    · refine ⟨_, b3.cell rfl, c_Known ⟨_, rfl, hB _ ?_⟩⟩
      rw [base, if_pos e2]
    have e2 : ¬ i.op = 2 := e2
    rw [if_neg e2] at base
    refine Cut_i (fun s hh => h2 = hh ∧ s = (decide (i.op = 3 ∨ i.op = 4), ())) (fun J hJ => ?_) ?_
    · refine cond_eqi (fun e => Wk_self (hJ _ _ ⟨rfl, ?_⟩)) (fun e => Wk_self (hJ _ _ ⟨rfl, ?_⟩))
      · have e : i.op = 3 := e; simp [e]
      · have e : ¬ i.op = 3 := e; simp [e]; rfl
    rintro _ _ ⟨rfl, rfl⟩
    refine cond_dec (fun e3 => ?_) (fun e3 => ?_)
    · rw [if_pos e3] at base
      refine ⟨_, b3.cell rfl, cond_dec (fun k0 => ⟨_, b3.cell rfl, sa, b2.cell rfl, cond_dec (fun k1 => ⟨sa, b2.cell rfl, _, b3.cell rfl, ?_⟩) (fun k1 => hB _ ?_)⟩) (fun k0 => hB _ ?_)⟩
      · refine ha.ix k0 (ix_lt ha k1 k0) fun a hc => ⟨_, cellq_le l hc.2.2.1, hB _ ?_⟩
        have k0' : 0 ≤ i.arr := k0
        rw [base, List.getElem?_eq_getElem (ix_lt ha k1 k0)]
        simp [k0']
      · rw [base, ix_ge ha k1 k0]; simp
      · have k0' : ¬ 0 ≤ i.arr := k0
        rw [base]; simp [k0']
    rw [if_neg e3] at base
    refine Cut_i (fun s hh => h2 = hh ∧ s = (decide (i.op = 5 ∨ i.op = 6), ())) (fun J hJ => ?_) ?_
    · refine cond_eqi (fun e => Wk_self (hJ _ _ ⟨rfl, ?_⟩)) (fun e => Wk_self (hJ _ _ ⟨rfl, ?_⟩))
      · have e : i.op = 5 := e; simp [e]
      · have e : ¬ i.op = 5 := e; simp [e]; rfl
    rintro _ _ ⟨rfl, rfl⟩
    refine cond_dec (fun e4 => ?_) (fun e4 => ?_)
    · rw [if_pos e4] at base
      refine ⟨_, b3.cell rfl, cond_dec (fun k0 => ⟨_, b3.cell rfl, sa, b2.cell rfl, cond_dec (fun k1 => ⟨sa, b2.cell rfl, _, b3.cell rfl, ?_⟩) (fun k1 => hB _ ?_)⟩) (fun k0 => hB _ ?_)⟩
      · refine ha.ix k0 (ix_lt ha k1 k0) fun a hc => ⟨_, cellq_le l hc.2.2.1, hB _ ?_⟩
        have k0' : 0 ≤ i.arr := k0
        rw [base, List.getElem?_eq_getElem (ix_lt ha k1 k0)]
        simp [k0']
      · rw [base, ix_ge ha k1 k0]; simp
      · have k0' : ¬ 0 ≤ i.arr := k0
        rw [base]; simp [k0']
    rw [if_neg e4] at base
    refine cond_eqi (fun e5 => ?_) (fun e5 => hB _ (by rw [base, if_neg e5]))
    have e5 : i.op = 7 := e5
    rw [if_pos e5] at base
    refine ⟨_, b3.cell rfl, cond_dec (fun k0 => ⟨_, b3.cell rfl, sf, b2.cell rfl, cond_dec (fun k1 => ⟨sf, b2.cell rfl, _, b3.cell rfl, ?_⟩) (fun k1 => hB _ ?_)⟩) (fun k0 => hB _ ?_)⟩
    · have hlt := ix_lt hf k1 k0
      refine hf.ix k0 hlt fun a ⟨s, hsb, hc⟩ => ⟨s, cellq_le l hc.2.1, cond_dec (fun k2 => ⟨q, b3.cell rfl, sf, b2.cell rfl, _, b3.cell rfl, hf.ix k0 hlt fun a' ⟨s', hsb', hc'⟩ => ⟨s', cellq_le l hc'.2.1, ?_⟩⟩) (fun k2 => hB _ ?_)⟩
      · have k2 : 0 < (p.funcs[i.fn.toNat]'hlt).blocks.length := by have := hsb.len; have k2' : (0 : Int) < (s.n : Int) := k2; omega
        refine hsb'.ixn (k := 0) k2 fun a2 ⟨pp, ii, ww, hp, _, _, hcc⟩ => ⟨pp, cellq_le l hcc.1, hB _ ?_⟩
        have k0' : 0 ≤ i.fn := k0
        rw [base, List.getElem?_eq_getElem hlt]
        simp only [k0', decide_true, Bool.true_and]
        rw [hq.len]
        rw [hp.len]
        obtain ⟨b0, bs, hbl⟩ : ∃ b0 bs, (p.funcs[i.fn.toNat]'hlt).blocks = b0 :: bs := by
          cases hb : (p.funcs[i.fn.toNat]'hlt).blocks with
          | nil => rw [hb] at k2; simp at k2
          | cons b0 bs => exact ⟨b0, bs, rfl⟩
        have e : (p.funcs[i.fn.toNat]'hlt).blocks[0]'k2 = b0 := Option.some.inj ((List.getElem?_eq_getElem k2).symm.trans (by rw [hbl]; rfl))
        rw [e, hbl, Bool.eq_iff_iff]
        simp only [beq_iff_eq]
        omega
      · have : (p.funcs[i.fn.toNat]'hlt).blocks = [] := List.eq_nil_of_length_eq_zero (by have := hsb.len; have k2' : ¬ (0 : Int) < (s.n : Int) := k2; omega)
        rw [base, List.getElem?_eq_getElem hlt]
        simp [this]
    · rw [base, ix_ge hf k1 k0]; simp
    · have k0' : ¬ 0 ≤ i.fn := k0
      rw [base]; simp [k0']

theorem c_wrong {h : V} {p : ProgD} {sa sf : Sl} {c0 : Addr} {i : InsD} {q : Sl} {R : Value → V → Prop} (hc : cellsAt h c0 0 [sV sa, sV sf, iV p.main]) (ha : isArrs h sa p.arrays) (hf : isFuncs h sf p.funcs) (hq : isInts h q i.args)
    (hR : R (.bool (!rightD p i)) h) : ACalls Try.prog 25 [.agg ⟨insV i q⟩, .pointer (some c0)] h R := by
  refine S25_ok _ _ _ _ _ _ _ _ _ _ (New_box fun r2 h1 hr2 l1 b2 => ⟨(sa, sf, p.main, ()), cellsAt_le l1 hc, (i.op, i.dst, q, i.num, i.bin, i.arr, i.fn, ()), b2.cells, ?_⟩)
  exact c_right (ha.le mono_arr l1) (hf.le mono_func l1) (hq.le mono_int l1) ⟨_, rfl, h, l1, hR⟩
theorem c_index_ins {h : V} {s : Sl} {l : List InsD} {f : Value} {q : InsD → Bool} {R : Value → V → Prop} (hs : isInss h s l)
    (hf : ∀ i p (K : Bool → V → Prop), isInts h p i.args → K (q i) h → CallV Try.prog f [.agg ⟨insV i p⟩] h (.un (.one .bool)) K) (hR : ∀ n : Int, decide (n ≥ 0) = l.any q → R (iV n) h) : ACalls Try.prog 40 [sV s, f] h R := by
  refine S40_ok _ _ _ _ ?_
  refine Lp_count l.length (fun k st hh => st = ((k : Int), ()) ∧ h = hh ∧ (l.take k).any q = false) ⟨rfl, rfl, by simp⟩ ?_
  rintro k _ _ K hk ⟨rfl, rfl, hq⟩ hK
  refine cond_dec (fun hlt => ?_) (fun hge => ?_)
  · have hk' : k < l.length := by have := hs.len; simp only at hlt; omega
    refine hs.ixn hk' fun a ⟨p, hp, hc⟩ => ⟨(l[k].op, l[k].dst, p, l[k].num, l[k].bin, l[k].arr, l[k].fn, ()), hc, hf _ _ _ hp ?_⟩
    refine cond_b (fun hy => ?_) (fun hn => ?_)
    · refine Wk_self (hR _ ?_)
      have : l.any q = true := List.any_eq_true.2 ⟨_, List.getElem_mem hk', hy⟩
      rw [this]; simp
    · refine Wk_self (hK _ _ hk' ⟨by rw [wnat hk' hs.bd], rfl, ?_⟩)
      rw [List.take_succ_eq_append_getElem hk', List.any_append, hq]
      simp [hn]
  · have : k = l.length := by have := hs.len; simp only at hge; omega
    subst this
    rw [List.take_of_length_le (Nat.le_refl _)] at hq
    exact Wk_self (hR _ (by rw [hq]; rfl))
theorem c_contains_ins {h : V} {s : Sl} {l : List InsD} {f : Value} {q : InsD → Bool} {R : Value → V → Prop} (hs : isInss h s l)
    (hf : ∀ i p (K : Bool → V → Prop), isInts h p i.args → K (q i) h → CallV Try.prog f [.agg ⟨insV i p⟩] h (.un (.one .bool)) K) (hR : R (.bool (l.any q)) h) : ACalls Try.prog 24 [sV s, f] h R :=
  S24_ok _ _ _ _ (c_index_ins hs hf fun n hn => ⟨n, rfl, Wk_self (by rw [hn]; exact hR)⟩)

/- a block's end -/
def waysN (k : Int) : Option Int := mget [((1 : Int), (1 : Int)), (2, 2), (3, 0), (4, 0)] k
def wayOk (bs : List BlockD) (w : EdgeD) : Bool := decide (1 ≤ w.to) && (match bs[w.to.toNat]? with
  | some b => w.args.length == b.params.length
  | none => false)
def endsD (bs : List BlockD) (e : EndD) : Bool :=
  if waysN e.kind = none then false
  else if (e.ways.length : Int) ≠ (waysN e.kind).getD 0 then false
  else if decide (e.kind = 4) ≠ decide (e.trap = 1 ∨ e.trap = 2) then false
  else if decide (e.kind = 2 ∨ e.kind = 3) ≠ decide (e.val > 0) then false
  else if e.val < 0 then false
  else e.ways.all (wayOk bs)
abbrev endV (e : EndD) (w : Sl) : List Value := [iV e.kind, iV e.val, sV w, iV e.trap]
theorem c_ends {h : V} {nm : ByteArray} {s w : Sl} {bs : List BlockD} {e : EndD} {R : Value → V → Prop} (hs : isBlocks h s bs) (hw : isEdges h w e.ways) (hR : R (.bool (endsD bs e)) h) :
    ACalls Try.prog 23 [.agg ⟨[.string nm, sV s]⟩, .agg ⟨endV e w⟩] h R := by
  refine S23_ok _ _ _ _ _ _ _ _ (New_box fun r2 h1 hr2 l1 b2 => New_box fun r3 h2 hr3 l2 b3 => ?_)
  intro r10 hr10
  have l12 := l1.trans l2
  refine MUpd_map (kd := .int .i64) (v := (1 : Int)) (upd_self _ _ _) (MapRep.empty _) fun o1 ho1 => ?_
  refine MUpd_map (kd := .int .i64) (v := (2 : Int)) (upd_self _ _ _) ho1 fun o2 ho2 => ?_
  refine MUpd_map (kd := .int .i64) (v := (0 : Int)) (upd_self _ _ _) ho2 fun o3 ho3 => ?_
  refine MUpd_map (kd := .int .i64) (v := (0 : Int)) (upd_self _ _ _) ho3 fun o4 ho4 => ?_
  have ho4' : MapRep (.int .i64) o4 [((1 : Int), (1 : Int)), (2, 2), (3, 0), (4, 0)] := ho4
  generalize hg : (((((h2.upd r10 (.map #[] 0)).upd r10 o1).upd r10 o2).upd r10 o3).upd r10 o4) = h7
  have l7 : Le h2 h7 := by subst hg; exact ((((le_upd hr10 _).upd hr10 _).upd hr10 _).upd hr10 _).upd hr10 _
  have g7 : h7 r10 = some o4 := by subst hg; exact upd_self _ _ _
  have b2 := (b2.le l2).le l7
  have b3 := b3.le l7
  have l := l12.trans l7
  have hB : ∀ b, endsD bs e = b → Wk h7 fun h' => R (.bool b) h' := fun b x => ⟨h, l, by rw [← x]; exact hR⟩
  refine ⟨_, b3.cell rfl, Look_map (kd := .int .i64) g7 ho4' ?_⟩
  refine Cut_i (fun _ hh => h7 = hh ∧ waysN e.kind ≠ none ∧ (e.ways.length : Int) = (waysN e.kind).getD 0 ∧ decide (e.kind = 4) = decide (e.trap = 1 ∨ e.trap = 2) ∧ decide (e.kind = 2 ∨ e.kind = 3) = decide (e.val > 0) ∧ ¬ e.val < 0) (fun J hJ => ?_) ?_
  · refine cond_not (fun n0 => hB _ ?_) (fun n0 => ?_)
    · have : waysN e.kind = none := by
        have n0 : (waysN e.kind).isSome = false := n0
        simpa using n0
      simp [endsD, this]
    have n0 : waysN e.kind ≠ none := by
      have n0 : (waysN e.kind).isSome = true := n0
      intro x; rw [x] at n0; cases n0
    refine ⟨w, b3.cell rfl, cond_nei (fun n1 => hB _ ?_) (fun n1 => ?_)⟩
    · have n1 : (w.n : Int) ≠ (waysN e.kind).getD 0 := n1
      rw [hw.len] at n1
      simp only [endsD, if_neg n0, if_pos n1]
    have n1 : (e.ways.length : Int) = (waysN e.kind).getD 0 := by rw [← hw.len]; exact n1
    have n1' : ¬ (e.ways.length : Int) ≠ (waysN e.kind).getD 0 := fun x => x n1
    have tail2 : decide (e.kind = 4) = decide (e.trap = 1 ∨ e.trap = 2) → ∀ c : Bool, c = decide (e.kind = 2 ∨ e.kind = 3) → (Ld h7 (Addr.add ⟨r3, 0, none⟩ 1) (.int .i64) fun (x52 : Int) => cond (!(c == decide (x52 > 0))) (Wk h7 fun h' => R (.bool false) h')
        (Ld h7 (Addr.add ⟨r3, 0, none⟩ 1) (.int .i64) fun (x58 : Int) => cond (decide (x58 < 0)) (Wk h7 fun h' => R (.bool false) h') (Wk h7 fun h' => J () h'))) := by
      rintro n2 c rfl
      have n2' : ¬ decide (e.kind = 4) ≠ decide (e.trap = 1 ∨ e.trap = 2) := fun x => x n2
      refine ⟨_, b3.cell rfl, cond_not (fun n3 => hB _ ?_) (fun n3 => ⟨_, b3.cell rfl, cond_dec (fun n4 => hB _ ?_) (fun n4 => Wk_self (hJ _ _ ⟨rfl, n0, n1, n2, by simpa using n3, n4⟩))⟩)⟩
      · have : decide (e.kind = 2 ∨ e.kind = 3) ≠ decide (e.val > 0) := by simpa using n3
        simp only [endsD, if_neg n0, if_neg n1', if_neg n2', if_pos this]
      · have n3' : ¬ decide (e.kind = 2 ∨ e.kind = 3) ≠ decide (e.val > 0) := fun x => x (by simpa using n3)
        have n4 : e.val < 0 := n4
        simp only [endsD, if_neg n0, if_neg n1', if_neg n2', if_neg n3', if_pos n4]
    have tail : decide (e.kind = 4) = decide (e.trap = 1 ∨ e.trap = 2) → (Ld h7 (Addr.add ⟨r3, 0, none⟩ 0) (.int .i64) fun (x44 : Int) => cond (x44 == 2)
        (Ld h7 (Addr.add ⟨r3, 0, none⟩ 1) (.int .i64) fun (x52 : Int) => cond (!(true == decide (x52 > 0))) (Wk h7 fun h' => R (.bool false) h')
          (Ld h7 (Addr.add ⟨r3, 0, none⟩ 1) (.int .i64) fun (x58 : Int) => cond (decide (x58 < 0)) (Wk h7 fun h' => R (.bool false) h') (Wk h7 fun h' => J () h')))
        (Ld h7 (Addr.add ⟨r3, 0, none⟩ 0) (.int .i64) fun (x48 : Int) => Ld h7 (Addr.add ⟨r3, 0, none⟩ 1) (.int .i64) fun (x52 : Int) => cond (!((x48 == 3) == decide (x52 > 0))) (Wk h7 fun h' => R (.bool false) h')
          (Ld h7 (Addr.add ⟨r3, 0, none⟩ 1) (.int .i64) fun (x58 : Int) => cond (decide (x58 < 0)) (Wk h7 fun h' => R (.bool false) h') (Wk h7 fun h' => J () h')))) := by
      intro n2
      refine ⟨_, b3.cell rfl, cond_eqi (fun n3 => ?_) (fun n3 => ⟨_, b3.cell rfl, ?_⟩)⟩
      · have n3 : e.kind = 2 := n3
        exact tail2 n2 true (by simp [n3])
      · have n3 : ¬ e.kind = 2 := n3
        exact tail2 n2 (e.kind == 3) (by simp [n3]; rfl)
    have no2 : decide (e.kind = 4) ≠ decide (e.trap = 1 ∨ e.trap = 2) → endsD bs e = false := fun n2 => by simp only [endsD, if_neg n0, if_neg n1', if_pos n2]
    have d4 : (e.kind == 4) = decide (e.kind = 4) := rfl
    refine ⟨_, b3.cell rfl, _, b3.cell rfl, cond_eqi (fun t1 => cond_not (fun n2 => hB _ (no2 ?_)) (fun n2 => tail ?_)) (fun t1 => ⟨_, b3.cell rfl, cond_not (fun n2 => hB _ (no2 ?_)) (fun n2 => tail ?_)⟩)⟩
    · have t1 : e.trap = 1 := t1
      rw [t1]; simpa using n2
    · have t1 : e.trap = 1 := t1
      rw [t1]; simpa using n2
    · have t1 : ¬ e.trap = 1 := t1
      have n2 : (decide (e.kind = 4) == decide (e.trap = 2)) = false := n2
      simpa [t1] using n2
    · have t1 : ¬ e.trap = 1 := t1
      have n2 : ((e.kind == 4) == (e.trap == 2)) = true := n2
      have n2 := eq_of_beq n2
      rw [d4] at n2
      rw [n2]
      simp [t1]
      rfl
  · rintro _ _ ⟨rfl, n0, n1, n2, n3, n4⟩
    have base : endsD bs e = e.ways.all (wayOk bs) := by
      have n1' : ¬ (e.ways.length : Int) ≠ (waysN e.kind).getD 0 := fun x => x n1
      have n2' : ¬ decide (e.kind = 4) ≠ decide (e.trap = 1 ∨ e.trap = 2) := fun x => x n2
      have n3' : ¬ decide (e.kind = 2 ∨ e.kind = 3) ≠ decide (e.val > 0) := fun x => x n3
      simp only [endsD, if_neg n0, if_neg n1', if_neg n2', if_neg n3', if_neg n4]
    have hF : ∀ {hh k}, Le h7 hh → k < e.ways.length → (∀ hk : k < e.ways.length, wayOk bs e.ways[k] = false) → Wk hh fun h' => R (.bool false) h' := fun {hh k} lh hk x => ⟨h, l.trans lh, by
      have : endsD bs e = false := by rw [base]; exact List.all_eq_false.2 ⟨_, List.getElem_mem hk, by simp [x hk]⟩
      rw [this] at hR; exact hR⟩
    refine ⟨w, b3.cell rfl, ?_⟩
    refine Lp_count e.ways.length (fun k st hh => st = ((k : Int), ()) ∧ h7 = hh ∧ (e.ways.take k).all (wayOk bs) = true) ⟨rfl, rfl, by simp⟩ ?_
    rintro k _ _ K hk ⟨rfl, rfl, hall⟩ hK
    refine cond_dec (fun hlt => ?_) (fun hge => ?_)
    · have hk' : k < e.ways.length := by have := hw.len; simp only at hlt; omega
      refine elem_edge hw l hk' rfl rfl fun q hq r9 h11 l11 l11' hr9 b9 => ?_
      have b2' := b2.le l11'
      refine ⟨_, b9.cell rfl, cond_dec (fun m1 => hF l11' hk' fun _ => ?_) (fun m1 => ⟨_, b9.cell rfl, s, b2'.cell rfl, cond_dec (fun m2 => hF l11' hk' fun _ => ?_) (fun m2 => ⟨q, b9.cell rfl, s, b2'.cell rfl, _, b9.cell rfl, ?_⟩)⟩)⟩
      · have m1 : e.ways[k].to < 1 := m1
        have : ¬ 1 ≤ e.ways[k].to := by omega
        simp [wayOk, this]
      · have m1 : ¬ e.ways[k].to < 1 := m1
        have : bs[e.ways[k].to.toNat]? = none := ix_ge hs (by have m2 : e.ways[k].to ≥ (s.n : Int) := m2; omega) (by omega)
        simp [wayOk, this]
      · have m1 : ¬ e.ways[k].to < 1 := m1
        have hlt2 : e.ways[k].to.toNat < bs.length := ix_lt hs (by have m2 : ¬ e.ways[k].to ≥ (s.n : Int) := m2; omega) (by omega)
        refine hs.ix (by omega) hlt2 fun a ⟨pp, ii, ww, hp, _, _, hc⟩ => ⟨pp, cellq_le (l.trans l11') hc.1, cond_nei (fun m3 => hF l11' hk' fun _ => ?_) (fun m3 => ⟨h7, l11', hK _ _ hk' ⟨by rw [wnat hk' hw.bd], rfl, ?_⟩⟩)⟩
        · have m3 : (q.n : Int) ≠ (pp.n : Int) := m3
          rw [hq.len, hp.len] at m3
          simp only [wayOk, List.getElem?_eq_getElem hlt2]
          have : ¬ (e.ways[k].args.length = (bs[e.ways[k].to.toNat]'hlt2).params.length) := fun x => m3 (by rw [x])
          simp [this]
        · have m3 : (q.n : Int) = (pp.n : Int) := m3
          rw [hq.len, hp.len] at m3
          rw [List.take_succ_eq_append_getElem hk', List.all_append, hall]
          have h1 : 1 ≤ e.ways[k].to := by omega
          have h2 : e.ways[k].args.length = (bs[e.ways[k].to.toNat]'hlt2).params.length := by omega
          simp [wayOk, List.getElem?_eq_getElem hlt2, h1, h2]
    · have : k = e.ways.length := by have := hw.len; simp only at hge; omega
      subst this
      rw [List.take_of_length_le (Nat.le_refl _)] at hall
      exact hB _ (by rw [base, hall])
end Go.Proofs.Ytaefmhephoilmaa
