/- One order of a region's operations stands for all: moving operations, and the theorem. -/
import Derived.Test.YtaefmhephoilmaaVord
namespace Go.VL
open Go

def EqE (E E' : Env) : Prop := ∀ t, eget E t = eget E' t
def ClosedE (C : Env → V → Prop) : Prop := ∀ E E' h, EqE E E' → C E h → C E' h
def Inf (h : V) : Prop := ∀ N, ∃ n, N ≤ n ∧ h n = none
theorem Sees.inf {w : World} {h : V} (s : Sees w h) : Inf h := fun N => ⟨N + w.heap.size, by omega, by
  cases hx : h (N + w.heap.size) with
  | none => rfl
  | some o => exact absurd (s.lt hx) (by omega)⟩
theorem Inf.upd {h : V} (i : Inf h) (r : Nat) (o : Obj) : Inf (h.upd r o) := fun N => by
  obtain ⟨n, h1, h2⟩ := i (N + r + 1)
  refine ⟨n, by omega, ?_⟩
  unfold V.upd
  rw [if_neg (by omega)]
  exact h2
theorem EqE.refl (E : Env) : EqE E E := fun _ => rfl
theorem EqE.symm {E E' : Env} (h : EqE E E') : EqE E' E := fun t => (h t).symm
theorem EqE.trans {E E' E'' : Env} (h : EqE E E') (k : EqE E' E'') : EqE E E'' := fun t => (h t).trans (k t)
theorem EqE.put {E E' : Env} (h : EqE E E') (d : Option Tmp) (v : Value) : EqE (eput E d v) (eput E' d v) := by
  cases d with
  | none => exact h
  | some d => intro t; simp only [eput, eget_cons, h t]
theorem EqE.same {E : Env} {d : Nat} {v : Value} (h : eget E d = some v) : EqE ((d, v) :: E) E := by
  intro t
  rw [eget_cons]
  by_cases e : d = t
  · subst e; rw [if_pos rfl, h]
  · rw [if_neg e]
theorem eput_get {E : Env} {d : Option Tmp} {v : Value} {t : Nat} (h : d ≠ some t) : eget (eput E d v) t = eget E t := by
  cases d with
  | none => rfl
  | some d =>
    simp only [eput, eget_cons]
    rw [if_neg (fun e => h (by rw [e]))]
theorem eput_comm {E : Env} {d e : Option Tmp} {v u : Value} (h : ∀ t, d = some t → e ≠ some t) : EqE (eput (eput E d v) e u) (eput (eput E e u) d v) := by
  intro t
  cases d with
  | none => rfl
  | some d =>
    cases e with
    | none => rfl
    | some e =>
      have hne : d ≠ e := fun x => h d rfl (by rw [x])
      simp only [eput, eget_cons]
      by_cases h1 : d = t
      · subst h1
        have : e ≠ d := fun x => hne x.symm
        simp [this]
      · simp [h1]
theorem mem_tmpsOf {t : Nat} : ∀ {xs : List Operand}, Operand.tmp t ∈ xs → t ∈ tmpsOf xs
  | [], h => by simp at h
  | x :: xs, h => by
    rcases List.mem_cons.1 h with rfl | h
    · simp [tmpsOf]
    · have := mem_tmpsOf (xs := xs) h
      cases x <;> simp [tmpsOf, this]
theorem ev_of_get {E E' : Env} {o : Oper} (h : ∀ t ∈ tmpsOf o.op.operands.toList, eget E t = eget E' t) : ∀ x ∈ o.op.operands.toList, ev E x = ev E' x := by
  intro x hx
  cases x with
  | tmp t => exact h t (mem_tmpsOf hx)
  | _ => rfl
def wantedE (ops : List Oper) (E : Env) (o : Oper) : Option Bool :=
  match o.guard with
  | none => some true
  | some (j, want) => match (ops[j]?).bind (·.dst) with
    | none => none
    | some d => match eget E d with
      | some (.bool b) => some (b == want)
      | some (.tuple _) => some false
      | _ => none
theorem wantedE_congr {ops : List Oper} {E E' : Env} {o : Oper} (h : ∀ t ∈ looks ops o, eget E t = eget E' t) : wantedE ops E o = wantedE ops E' o := by
  unfold wantedE
  unfold looks at h
  cases hg : o.guard with
  | none => rfl
  | some jw =>
    obtain ⟨j, want⟩ := jw
    rw [hg] at h
    simp only
    cases hd : (ops[j]?).bind (·.dst) with
    | none => rfl
    | some d =>
      simp only
      rw [h d (by simp [hd])]
def stepOK (P : Program) (ops : List Oper) (xs : List Nat) (i : Nat) (E : Env) (h : V) (C : Env → V → Prop) : Prop :=
  ∃ o, ops[i]? = some o ∧ ((wantedE ops E o = some true ∧ aopx P E h o (memN i xs) fun v h' => C (eput E o.dst v) h') ∨ (wantedE ops E o = some false ∧ C (eput E o.dst undef) h))
theorem aop_mono {P : Program} {E : Env} {h : V} {o : Oper} {K K' : Value → V → Prop} (hK : ∀ v h, K v h → K' v h) (hk : aop P E h o K) : aop P E h o K' := by
  unfold aop at *
  cases hr : rsv P E o with
  | none => rw [hr] at hk; exact hk
  | some r => rw [hr] at hk; exact R.run_mono hK hk
theorem aopx_mono {P : Program} {E : Env} {h : V} {o : Oper} {x : Bool} {K K' : Value → V → Prop} (hK : ∀ v h, K v h → K' v h) (hk : aopx P E h o x K) : aopx P E h o x K' := by
  refine aop_mono (fun v h' hh => ?_) hk
  cases x with
  | true => exact ⟨hh.1, hK _ _ hh.2⟩
  | false => exact hK _ _ hh
theorem aop_congr {P : Program} {E E' : Env} {h : V} {o : Oper} {K : Value → V → Prop} (he : ∀ t ∈ tmpsOf o.op.operands.toList, eget E t = eget E' t) (hk : aop P E h o K) : aop P E' h o K := by
  unfold aop at *
  rw [← rsv_congr (ev_of_get he)]
  exact hk
theorem stepOK_mono {P : Program} {ops : List Oper} {xs : List Nat} {i : Nat} {E : Env} {h : V} {C C' : Env → V → Prop} (hC : ∀ E h, C E h → C' E h) (hk : stepOK P ops xs i E h C) : stepOK P ops xs i E h C' := by
  obtain ⟨o, ho, hk | hk⟩ := hk
  · exact ⟨o, ho, .inl ⟨hk.1, aopx_mono (fun _ _ => hC _ _) hk.2⟩⟩
  · exact ⟨o, ho, .inr ⟨hk.1, hC _ _ hk.2⟩⟩
theorem stepOK_congr {P : Program} {ops : List Oper} {xs : List Nat} {i : Nat} {E E' : Env} {h : V} {C : Env → V → Prop} (hC : ClosedE C) (he : EqE E E') (hk : stepOK P ops xs i E h C) : stepOK P ops xs i E' h C := by
  obtain ⟨o, ho, hk | hk⟩ := hk
  · refine ⟨o, ho, .inl ⟨by rw [← hk.1]; exact wantedE_congr fun t _ => (he t).symm, ?_⟩⟩
    exact aopx_mono (fun v h' hc => hC _ _ _ (he.put _ _) hc) (aop_congr (fun t _ => he t) hk.2)
  · exact ⟨o, ho, .inr ⟨by rw [← hk.1]; exact wantedE_congr fun t _ => (he t).symm, hC _ _ _ (he.put _ _) hk.2⟩⟩
theorem astep_ok {P : Program} {ops : List Oper} {xs : List Nat} {i : Nat} {E : Env} {h : V} {C : Env → V → Prop} (hC : ClosedE C) (hk : astep P ops xs i E h C) : stepOK P ops xs i E h C := by
  unfold astep at hk
  cases ho : ops[i]? with
  | none => rw [ho] at hk; exact hk.elim
  | some o =>
    rw [ho] at hk
    simp only at hk
    cases hg : o.guard with
    | none =>
      rw [hg] at hk
      exact ⟨o, ho, .inl ⟨by simp [wantedE, hg], hk⟩⟩
    | some jw =>
      obtain ⟨j, want⟩ := jw
      rw [hg] at hk
      simp only at hk
      cases hd : (ops[j]?).bind (·.dst) with
      | none => rw [hd] at hk; exact hk.elim
      | some d =>
        rw [hd] at hk
        simp only at hk
        split at hk
        · rename_i b hv
          have go : ∀ b', b = b' → (aopx P ((d, .bool b') :: E) h o (memN i xs) fun v h' => C (eput ((d, .bool b') :: E) o.dst v) h') → aopx P E h o (memN i xs) fun v h' => C (eput E o.dst v) h' := by
            intro b' e hh
            subst e
            have := EqE.same hv
            exact aopx_mono (fun v h' hc => hC _ _ _ (this.put _ _) hc) (aop_congr (fun t _ => this t) hh)
          have skip : ∀ b', b = b' → C (eput ((d, .bool b') :: E) o.dst undef) h → C (eput E o.dst undef) h := by
            intro b' e hh
            subst e
            exact hC _ _ _ ((EqE.same hv).put _ _) hh
          have hw : wantedE ops E o = some (b == want) := by simp [wantedE, hg, hd, hv]
          cases b <;> cases want <;> simp only [cond_true, cond_false] at hk
          · exact ⟨o, ho, .inl ⟨hw, go _ rfl hk⟩⟩
          · exact ⟨o, ho, .inr ⟨hw, skip _ rfl hk⟩⟩
          · exact ⟨o, ho, .inr ⟨hw, skip _ rfl hk⟩⟩
          · exact ⟨o, ho, .inl ⟨hw, go _ rfl hk⟩⟩
        · rename_i vs hv
          exact ⟨o, ho, .inr ⟨by simp [wantedE, hg, hd, hv], hk⟩⟩
        · exact hk.elim

/- the classes of operations -/
theorem isP_bif {b : Bool} {x r : R} (hx : isP x = true) (h : (bif b then some x else none) = some r) : isP r = true := by
  cases b with
  | true => cases h; exact hx
  | false => cases h
theorem isP_bif' {b : Bool} {x r : R} (hx : isP x = true) (h : (bif b then none else some x) = some r) : isP r = true := by
  cases b with
  | false => cases h; exact hx
  | true => cases h
theorem isP_map {α : Type} {x : Option α} {f : α → R} {r : R} (hf : ∀ y, isP (f y) = true) (h : x.map f = some r) : isP r = true := by
  obtain ⟨y, _, rfl⟩ := Option.map_eq_some_iff.1 h
  exact hf y
theorem rint_P {op : BinOp} {k : IntKind} {a b : Int} {r : R} (h : rint op k a b = some r) : isP r = true := by
  cases op <;> simp only [rint, Option.some.injEq, reduceCtorEq] at h <;> subst h <;> rfl
theorem rbin_P {P : Program} {op : BinOp} {t : TypeId} {x y : Value} {r : R} (h : rbin P op t x y = some r) : isP r = true := by
  unfold rbin at h
  split at h
  · split at h
    · cases h; rfl
    · cases h; rfl
    · split at h
      · exact rint_P h
      · cases h
  · cases hb : isBoolT P t with
    | false => rw [hb] at h; cases h
    | true => rw [hb] at h; simp only [cond_true] at h; split at h <;> first | (cases h; rfl) | cases h
  · split at h <;> first | (cases h; rfl) | cases h
  · cases hb : isMapT P t with
    | false => rw [hb] at h; cases h
    | true => rw [hb] at h; simp only [cond_true] at h; split at h <;> first | (cases h; rfl) | cases h
  · cases hb : isSliceT P t with
    | false => rw [hb] at h; cases h
    | true => rw [hb] at h; simp only [cond_true] at h; split at h <;> first | (cases h; rfl) | cases h
  · cases hb : isPtrT P t with
    | false => rw [hb] at h; cases h
    | true => rw [hb] at h; simp only [cond_true] at h; split at h <;> first | (cases h; rfl) | cases h
  · split at h <;> first | (obtain ⟨_, _, rfl⟩ := Option.map_eq_some_iff.1 h; rfl) | cases h
  · cases h
theorem clsP_spec {P : Program} {E : Env} {o : Oper} {r : R} (hc : clsP o = true) (hr : rsv P E o = some r) : isP r = true := by
  unfold clsP at hc
  unfold rsv at hr
  cases ho : o.op <;> rw [ho] at hc hr <;> simp only [Bool.false_eq_true] at hc <;> simp only at hr
  case move x => exact isP_map (fun _ => rfl) hr
  case assign x => exact isP_map (fun _ => rfl) hr
  case pick => split at hr <;> first | (cases hr; rfl) | cases hr
  case nilCheck => split at hr <;> first | (cases hr; rfl) | cases hr
  case binOp => split at hr <;> first | exact rbin_P hr | cases hr
  case unOp =>
    split at hr
    · unfold run1 at hr
      split at hr <;> first | (cases hr; rfl) | cases hr
    · cases hr
  case convert => split at hr <;> first | (cases hr; rfl) | cases hr
  case makeFunc => split at hr <;> first | (cases hr; rfl) | cases hr
  case fieldAddr =>
    split at hr
    · split at hr
      · exact isP_bif' rfl hr
      · cases hr
    · cases hr
  case field =>
    split at hr
    · split at hr
      · split at hr
        · exact isP_map (fun _ => rfl) hr
        · cases hr
      · cases hr
    · cases hr
  case indexAddr => split at hr <;> first | cases hr | (split at hr <;> first | (cases hr; rfl) | cases hr)
  case slice =>
    split at hr
    · split at hr
      · exact isP_bif' rfl hr
      · cases hr
    · cases hr
  case extract =>
    split at hr
    · split at hr <;> first | (cases hr; rfl) | cases hr
    · cases hr
  case build =>
    split at hr
    · rename_i fs z vs _ _ _
      cases hb : (fs.toList.all fun f => (P.info? f.type).isSome) with
      | false => rw [hb] at hr; cases hr
      | true => rw [hb] at hr; exact isP_map (fun _ => rfl) hr
    · cases hr
  case call c =>
    obtain ⟨cal, args, ts⟩ := c
    cases cal with
    | value x => cases hc
    | invoke x => cases hc
    | builtin b =>
      simp only at hc hr
      split at hr
      · rename_i hh _; cases hh
      · rename_i hh _; cases hh
      · rename_i b' vs hh hv
        cases hh
        unfold rbuiltin at hr
        cases b <;> simp only [Bool.false_eq_true] at hc <;> simp only at hr
        all_goals split at hr <;> first | exact isP_map (fun _ => rfl) hr | cases hr
      · cases hr
theorem isQ_bif {b : Bool} {x r : R} (hx : isQ x = true) (h : (bif b then some x else none) = some r) : isQ r = true := by
  cases b with
  | true => cases h; exact hx
  | false => cases h
theorem isQ_bif' {b : Bool} {x r : R} (hx : isQ x = true) (h : (bif b then none else some x) = some r) : isQ r = true := by
  cases b with
  | false => cases h; exact hx
  | true => cases h
theorem isQ_of_P {r : R} (h : isP r = true) : isQ r = true := by cases r <;> first | rfl | cases h
theorem clsQ_spec {P : Program} {E : Env} {o : Oper} {r : R} (hc : clsQ o = true) (hr : rsv P E o = some r) : isQ r = true := by
  by_cases hp : clsP o = true
  · exact isQ_of_P (clsP_spec hp hr)
  · unfold clsQ at hc
    unfold rsv at hr
    cases ho : o.op <;> rw [ho] at hc hr <;> simp only at hc hr
    case load t x =>
      split at hr
      · split at hr
        · exact isQ_bif' rfl hr
        · exact isQ_bif rfl hr
        · cases hr
      · cases hr
    case lookup =>
      split at hr
      · split at hr
        · obtain ⟨y, _, rfl⟩ := Option.map_eq_some_iff.1 hr; rfl
        · cases hr
      · cases hr
    case entry => split at hr <;> first | (cases hr; rfl) | cases hr
    case call c =>
      obtain ⟨cal, args, ts⟩ := c
      cases cal with
      | value x => cases hc
      | invoke x => cases hc
      | builtin b =>
        simp only at hc hr
        split at hr
        · rename_i hh _; cases hh
        · rename_i hh _; cases hh
        · rename_i b' vs hh hv
          cases hh
          unfold rbuiltin at hr
          cases b <;> simp only [Bool.false_eq_true] at hc <;> simp only at hr
          case len =>
            split at hr
            · exact isQ_bif rfl hr
            · exact isQ_bif rfl hr
            · exact isQ_bif rfl hr
            · cases hr
          all_goals exact absurd (by simp [clsP, ho]) hp
        · cases hr
    all_goals exact absurd hc hp
theorem isX_bif {b : Bool} {x r : R} (hx : isX x = true) (h : (bif b then some x else none) = some r) : isX r = true := by
  cases b with
  | true => cases h; exact hx
  | false => cases h
theorem isX_bifmap {α : Type} {b : Bool} {x : Option α} {f : α → R} {r : R} (hf : ∀ y, isX (f y) = true) (h : (bif b then x.map f else none) = some r) : isX r = true := by
  cases b with
  | true => obtain ⟨y, _, rfl⟩ := Option.map_eq_some_iff.1 h; exact hf y
  | false => cases h
theorem clsX_spec {P : Program} {E : Env} {o : Oper} {r : R} (hc : clsX o = true) (hr : rsv P E o = some r) : isX r = true := by
  unfold clsX at hc
  unfold rsv at hr
  cases ho : o.op <;> rw [ho] at hc hr <;> simp only [Bool.false_eq_true] at hc <;> simp only at hr
  case alloc => split at hr <;> first | (cases hr; rfl) | cases hr
  case box => obtain ⟨y, _, rfl⟩ := Option.map_eq_some_iff.1 hr; rfl
  case makeMap t x => cases x with
    | none => cases hr; rfl
    | some x => cases hr
  case makeSlice =>
    split at hr
    · split at hr
      · exact isX_bif rfl hr
      · cases hr
    · cases hr
  case buildSlice =>
    split at hr
    · split at hr
      · exact isX_bifmap (fun _ => rfl) hr
      · cases hr
    · cases hr

/- the exchange -/
theorem aopx_out {P : Program} {E : Env} {h : V} {o : Oper} {x : Bool} {K : Value → V → Prop} (hk : aopx P E h o x K) : ∃ r, rsv P E o = some r ∧ r.run P h fun v h' => bif x then Le h h' ∧ K v h' else K v h' := by
  unfold aopx aop at hk
  cases hr : rsv P E o with
  | none => rw [hr] at hk; exact hk.elim
  | some r => rw [hr] at hk; exact ⟨r, rfl, hk⟩
theorem aopx_in {P : Program} {E : Env} {h : V} {o : Oper} {x : Bool} {K : Value → V → Prop} {r : R} (hr : rsv P E o = some r) (hk : r.run P h fun v h' => bif x then Le h h' ∧ K v h' else K v h') : aopx P E h o x K := by
  unfold aopx aop
  rw [hr]
  exact hk
theorem bif_K {x : Bool} {p q : Prop} (h : bif x then p ∧ q else q) : q := by cases x with
  | true => exact h.2
  | false => exact h
theorem bif_mk {x : Bool} {p q : Prop} (hp : p) (hq : q) : bif x then p ∧ q else q := by cases x with
  | true => exact ⟨hp, hq⟩
  | false => exact hq
theorem upd_comm {h : V} {n m : Nat} (hne : n ≠ m) (o p : Obj) : (h.upd n o).upd m p = (h.upd m p).upd n o := by
  funext b
  unfold V.upd
  by_cases h1 : b = m
  · subst h1; simp only [if_true]; rw [if_neg (fun e : b = n => hne e.symm)]
  · simp [h1]
theorem swap_sound {P : Program} {ops : List Oper} {xs : List Nat} {i j : Nat} (hs : swapOk ops xs i j = true) {E : Env} {h : V} {C : Env → V → Prop} (hC : ClosedE C) (hinf : Inf h)
    (hk : stepOK P ops xs i E h fun E1 h1 => Inf h1 → stepOK P ops xs j E1 h1 C) : stepOK P ops xs j E h fun E1 h1 => Inf h1 → stepOK P ops xs i E1 h1 C := by
  unfold swapOk at hs
  obtain ⟨x, hx, hk⟩ := hk
  rw [hx] at hs
  cases hy : ops[j]? with
  | none => rw [hy] at hs; cases hs
  | some y =>
    rw [hy] at hs
    simp only [Bool.and_eq_true] at hs
    obtain ⟨hap, hcl⟩ := hs
    -- what apart says
    have hxy : ∀ d, x.dst = some d → d ∉ looks ops y ∧ y.dst ≠ some d := by
      intro d hd
      simp only [apartO, hd, Bool.and_eq_true, Bool.not_eq_true'] at hap
      refine ⟨fun hin => ?_, fun e => ?_⟩
      · have := memN_iff.2 hin; rw [hap.1.1] at this; cases this
      · have := hap.1.2; rw [e] at this; simp at this
    have hyx : ∀ d, y.dst = some d → d ∉ looks ops x := by
      intro d hd hin
      simp only [apartO, hd, Bool.and_eq_true, Bool.not_eq_true'] at hap
      have := memN_iff.2 hin; rw [hap.2] at this; cases this
    have wy : ∀ E v, wantedE ops (eput E x.dst v) y = wantedE ops E y := fun E v => wantedE_congr fun t ht => eput_get fun e => (hxy t e).1 ht
    have wx : ∀ E v, wantedE ops (eput E y.dst v) x = wantedE ops E x := fun E v => wantedE_congr fun t ht => eput_get fun e => hyx t e ht
    have ty : ∀ E v, ∀ t ∈ tmpsOf y.op.operands.toList, eget (eput E x.dst v) t = eget E t := fun E v t ht => eput_get fun e => (hxy t e).1 (by unfold looks; simp [ht])
    have tx : ∀ E v, ∀ t ∈ tmpsOf x.op.operands.toList, eget (eput E y.dst v) t = eget E t := fun E v t ht => eput_get fun e => hyx t e (by unfold looks; simp [ht])
    have ry : ∀ E v, rsv P (eput E x.dst v) y = rsv P E y := fun E v => rsv_congr (ev_of_get (ty E v))
    have rx : ∀ E v, rsv P (eput E y.dst v) x = rsv P E x := fun E v => rsv_congr (ev_of_get (tx E v))
    have comm : ∀ E v u h, C (eput (eput E x.dst v) y.dst u) h → C (eput (eput E y.dst u) x.dst v) h := fun E v u h hc => hC _ _ _ (eput_comm fun t ht => (hxy t ht).2) hc
    rcases hk with ⟨hwx, hk⟩ | ⟨hwx, hk⟩
    · -- x is done
      obtain ⟨r, hr, hrun⟩ := aopx_out hk
      by_cases hwy : wantedE ops E y = some true
      · -- y is done
        have inner : ∀ v h1, (Inf h1 → stepOK P ops xs j (eput E x.dst v) h1 C) → Inf h1 → aopx P E h1 y (memN j xs) fun u h2 => C (eput (eput E x.dst v) y.dst u) h2 := by
          intro v h1 hh hi
          obtain ⟨y', hy', hh⟩ := hh hi
          rw [hy] at hy'
          cases hy'
          rcases hh with ⟨_, hh⟩ | ⟨hw, _⟩
          · exact aop_congr (ty E v) hh
          · rw [wy] at hw; rw [hwy] at hw; cases hw
        have put : ∀ u h2, (Inf h2 → aopx P E h2 x (memN i xs) fun v h3 => C (eput (eput E y.dst u) x.dst v) h3) → (Inf h2 → stepOK P ops xs i (eput E y.dst u) h2 C) :=
          fun u h2 hh hi => ⟨x, hx, .inl ⟨by rw [wx]; exact hwx, aop_congr (fun t ht => (tx E u t ht).symm) (hh hi)⟩⟩
        refine ⟨y, hy, .inl ⟨hwy, ?_⟩⟩
        simp only [Bool.or_eq_true, Bool.and_eq_true] at hcl
        rcases hcl with ⟨hqx, hcl⟩ | ⟨hX, hY⟩
        · by_cases hP : clsP x = true
          · obtain ⟨v, hv, hre⟩ := run_P (clsP_spec hP hr) hrun
            have hin := inner v h (bif_K hv) hinf
            exact aopx_mono (fun u h2 hc => put u h2 fun _ => aopx_in hr (hre h2 _ (bif_mk (Le.refl _) (comm _ _ _ _ hc)))) hin
          · obtain ⟨v, hv, hre⟩ := run_Q (clsQ_spec hqx hr) hrun
            have hin := inner v h (bif_K hv) hinf
            rcases hcl with (hcl | hcl) | hcl
            · rcases hcl with hcl | hcl
              · obtain ⟨ry', hry, hyrun⟩ := aopx_out hin
                obtain ⟨u, hu, hyre⟩ := run_Q (clsQ_spec hcl hry) hyrun
                refine aopx_in hry (hyre h _ (Le.refl _) (bif_mk (Le.refl _) (put u h fun _ => aopx_in hr (hre h _ (Le.refl _) (bif_mk (Le.refl _) (comm _ _ _ _ (bif_K hu)))))))
              · obtain ⟨ry', hry, hyrun⟩ := aopx_out hin
                obtain ⟨p, ob, f, hf⟩ := run_X (P := P) (clsX_spec hcl hry)
                have hy1 := (hf _ _).1 hyrun
                refine aopx_in hry ((hf _ _).2 ⟨hy1.1, fun n hn => bif_mk (le_upd hn _) (put _ _ fun _ => aopx_in hr (hre _ _ (le_upd hn _) (bif_mk (Le.refl _) (comm _ _ _ _ (bif_K (hy1.2 n hn))))))⟩)
            · obtain ⟨ry', hry, hyrun⟩ := aopx_out hin
              rw [hcl] at hyrun
              refine aopx_in hry (R.run_mono (fun u h2 hh => ?_) hyrun)
              exact bif_mk hh.1 (put u h2 fun _ => aopx_in hr (hre h2 _ hh.1 (bif_mk (Le.refl _) (comm _ _ _ _ hh.2))))
            · exact absurd hcl hP
        · obtain ⟨p, ob, f, hf⟩ := run_X (P := P) (clsX_spec hX hr)
          obtain ⟨hp, hrun⟩ := (hf _ _).1 hrun
          obtain ⟨n0, _, hn0⟩ := hinf 0
          have hin0 := inner _ _ (bif_K (hrun n0 hn0)) (hinf.upd _ _)
          obtain ⟨ry', hry, hyrun0⟩ := aopx_out hin0
          obtain ⟨q, ob', f', hf'⟩ := run_X (P := P) (clsX_spec hY hry)
          have hq := ((hf' _ _).1 hyrun0).1
          refine aopx_in hry ((hf' _ _).2 ⟨hq, fun m hm => bif_mk (le_upd hm _) (put _ _ fun _ => aopx_in hr ((hf _ _).2 ⟨hp, fun n hn => bif_mk (le_upd hn _) ?_⟩))⟩)
          have hnm : n ≠ m := by
            intro e; subst e
            simp [V.upd] at hn
          have hn' : h n = none := by
            unfold V.upd at hn
            rw [if_neg hnm] at hn
            exact hn
          have hin := inner _ _ (bif_K (hrun n hn')) (hinf.upd _ _)
          obtain ⟨r2, hr2, hyrun⟩ := aopx_out hin
          rw [hry] at hr2
          cases hr2
          have hm' : (h.upd n ob) m = none := by
            unfold V.upd
            rw [if_neg (fun e => hnm e.symm)]
            exact hm
          have := bif_K (((hf' _ _).1 hyrun).2 m hm')
          rw [upd_comm hnm] at this
          exact comm _ _ _ _ this
      · -- y is not done
        have inner : ∀ v h1, (Inf h1 → stepOK P ops xs j (eput E x.dst v) h1 C) → Inf h1 → wantedE ops E y = some false ∧ C (eput (eput E x.dst v) y.dst undef) h1 := by
          intro v h1 hh hi
          obtain ⟨y', hy', hh⟩ := hh hi
          rw [hy] at hy'
          cases hy'
          rcases hh with ⟨hw, _⟩ | ⟨hw, hh⟩
          · rw [wy] at hw; exact absurd hw hwy
          · rw [wy] at hw; exact ⟨hw, hh⟩
        have hwy' : wantedE ops E y = some false := by
          simp only [Bool.or_eq_true, Bool.and_eq_true] at hcl
          rcases hcl with ⟨hqx, _⟩ | ⟨hX, _⟩
          · obtain ⟨v, hv, _⟩ := run_Q (clsQ_spec hqx hr) hrun
            exact (inner v h (bif_K hv) hinf).1
          · obtain ⟨p, ob, f, hf⟩ := run_X (P := P) (clsX_spec hX hr)
            obtain ⟨hp, hrun⟩ := (hf _ _).1 hrun
            obtain ⟨n0, _, hn0⟩ := hinf 0
            exact (inner _ _ (bif_K (hrun n0 hn0)) (hinf.upd _ _)).1
        refine ⟨y, hy, .inr ⟨hwy', fun _ => ⟨x, hx, .inl ⟨by rw [wx]; exact hwx, aopx_in (by rw [rx]; exact hr) ?_⟩⟩⟩⟩
        simp only [Bool.or_eq_true, Bool.and_eq_true] at hcl
        rcases hcl with ⟨hqx, _⟩ | ⟨hX, _⟩
        · obtain ⟨v, hv, hre⟩ := run_Q (clsQ_spec hqx hr) hrun
          exact hre h _ (Le.refl _) (bif_mk (Le.refl _) (comm _ _ _ _ (inner v h (bif_K hv) hinf).2))
        · obtain ⟨p, ob, f, hf⟩ := run_X (P := P) (clsX_spec hX hr)
          obtain ⟨hp, hrun⟩ := (hf _ _).1 hrun
          exact (hf _ _).2 ⟨hp, fun n hn => bif_mk (le_upd hn _) (comm _ _ _ _ (inner _ _ (bif_K (hrun n hn)) (hinf.upd _ _)).2)⟩
    · -- x is not done
      obtain ⟨y', hy', hh⟩ := hk hinf
      rw [hy] at hy'
      cases hy'
      rcases hh with ⟨hwy, hh⟩ | ⟨hwy, hh⟩
      · rw [wy] at hwy
        refine ⟨y, hy, .inl ⟨hwy, aopx_mono (fun u h2 hc => ?_) (aop_congr (ty E undef) hh)⟩⟩
        exact fun _ => ⟨x, hx, .inr ⟨by rw [wx]; exact hwx, comm _ _ _ _ hc⟩⟩
      · rw [wy] at hwy
        exact ⟨y, hy, .inr ⟨hwy, fun _ => ⟨x, hx, .inr ⟨by rw [wx]; exact hwx, comm _ _ _ _ hh⟩⟩⟩⟩
end Go.VL
