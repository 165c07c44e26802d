/- Contracts of package taint: the solver's memory, and raising. -/
import Derived.Test.YtaefmhephoilmaaPc
import Derived.Test.YtaefmhephoilmaaSb
namespace Go.Proofs.Ytaefmhephoilmaa
open Go Go.VL

def repMap (h : V) (a : Addr) (q : Nat) : Prop := cellq h a = some (Value.map (some q))
theorem mono_map : Mono repMap := fun _ _ _ _ l h => cellq_le l h
structure SolC (hB : V) (p : ProgD) (cut : CutF) (wr : List Bool) (sa sf vs cs ws : Sl) (ids : List Nat) : Prop where
  arrays : isArrs hB sa p.arrays
  funcs : isFuncs hB sf p.funcs
  vals : isSl repMap 1 hB vs ids
  len : ids.length = p.funcs.length
  nd : ids.Nodup
  cuts : ∃ cl, isSl repMap 1 hB cs cl ∧ cl.length = p.funcs.length ∧ ∀ (f : Nat) q, cl[f]? = some q → ∃ o m, hB q = some o ∧ MapRep .bool o m ∧ ∀ v, (mget m v).getD false = cut f v
  writes : isSl repBool 1 hB ws wr
theorem SolC.le {hB hC : V} {p : ProgD} {cut : CutF} {wr : List Bool} {sa sf vs cs ws : Sl} {ids : List Nat} (c : SolC hB p cut wr sa sf vs cs ws ids) (l : Le hB hC) : SolC hC p cut wr sa sf vs cs ws ids :=
  ⟨c.arrays.le mono_arr l, c.funcs.le mono_func l, c.vals.le mono_map l, c.len, c.nd, by
    obtain ⟨cl, h1, h2, h3⟩ := c.cuts
    exact ⟨cl, h1.le mono_map l, h2, fun f q hq => let ⟨o, m, g1, g2⟩ := h3 f q hq; ⟨o, m, l _ _ g1, g2⟩⟩, c.writes.le mono_bool l⟩

structure SolW (hB hh : V) (p : ProgD) (r : Nat) (sa sf vs ar rs cs ws : Sl) (ids : List Nat) (L : LabF) (tu : Bool) : Prop where
  le : Le hB hh
  box : Box hh r [sV sa, sV sf, iV p.main, sV vs, sV ar, sV rs, sV cs, sV ws, .bool tu] 78
  newr : hB r = none
  maps : ∀ (f : Nat) q, ids[f]? = some q → hB q = none ∧ ∃ o m, hh q = some o ∧ MapRep (.int .i64) o m ∧ ∀ v, (mget m v).getD (0 : Int) = L (.val f v)
  arrs : ∃ l : List Int, OwnS hB hh ar 42 1 (l.map (Value.int .i64)) ∧ l.length = p.arrays.length ∧ ∀ (i : Nat) x, l[i]? = some x → x = L (.arr i)
  rets : ∃ l : List Int, OwnS hB hh rs 42 1 (l.map (Value.int .i64)) ∧ l.length = p.funcs.length ∧ ∀ (i : Nat) x, l[i]? = some x → x = L (.ret i)
  dis : ∀ a b, ar.a = some a → rs.a = some b → a.block ≠ b.block

theorem MapRep.noCells {kd : Kd} {cs : Array Value} {t : TypeId} {g : Nat × Nat} {m : List (Int × kd.T)} (h : MapRep kd (.cells cs t g) m) : False := by
  obtain ⟨es, clk, e, _⟩ := h.ex
  cases e
section
variable {hB hh h' : V} {p : ProgD} {r : Nat} {sa sf vs ar rs cs ws : Sl} {ids : List Nat} {L : LabF} {tu : Bool} {cut : CutF} {wr : List Bool}
theorem SolW.ner (k : SolW hB hh p r sa sf vs ar rs cs ws ids L tu) {f q : Nat} (hq : ids[f]? = some q) : q ≠ r := by
  obtain ⟨_, o, m, h1, h2, _⟩ := k.maps f q hq
  intro e; subst e
  have := k.box
  unfold Box at this
  rw [h1] at this
  cases this
  exact MapRep.noCells h2
theorem SolW.nes (k : SolW hB hh p r sa sf vs ar rs cs ws ids L tu) {f q : Nat} (hq : ids[f]? = some q) {s : Sl} {T : TypeId} {xs : List Value} (o : OwnS hB hh s T 1 xs) {a : Addr} (ha : s.a = some a) : a.block ≠ q := by
  obtain ⟨_, ob, m, h1, h2, _⟩ := k.maps f q hq
  obtain ⟨_, arr, h3⟩ := o.blk ha
  intro e
  rw [e, h1] at h3
  cases h3
  exact MapRep.noCells h2
theorem SolW.nea (k : SolW hB hh p r sa sf vs ar rs cs ws ids L tu) {s : Sl} {xs : List Value} (o : OwnS hB hh s 42 1 xs) {a : Addr} (ha : s.a = some a) : a.block ≠ r := by
  obtain ⟨_, arr, h3⟩ := o.blk ha
  intro e
  have := k.box
  unfold Box at this
  rw [← e, h3] at this
  cases this
/- a map that takes an entry -/
theorem SolW.putv (k : SolW hB hh p r sa sf vs ar rs cs ws ids L tu) (nd : ids.Nodup) {f q : Nat} (hq : ids[f]? = some q) {o' : Obj} {m : List (Int × Int)} {v x : Int} (hm : ∀ u, (mget m u).getD (0 : Int) = L (.val f u)) (ho : MapRep (.int .i64) o' (mset m v x)) :
    SolW hB (hh.upd q o') p r sa sf vs ar rs cs ws ids (putL L (.val f v) x) tu := by
  have hn := (k.maps f q hq).1
  have ne : ∀ b, b ≠ q → (hh.upd q o') b = hh b := fun b hb => upd_ne hb _
  refine ⟨fun b ob hb => ?_, (ne r (fun e => k.ner hq e.symm)).trans k.box, k.newr, fun f2 q2 hq2 => ⟨(k.maps f2 q2 hq2).1, ?_⟩, ?_, ?_, k.dis⟩
  · rw [ne b (fun e => by subst e; rw [hn] at hb; cases hb)]; exact k.le b ob hb
  · by_cases e : q2 = q
    · subst e
      have ef : f2 = f := (List.getElem?_inj (List.getElem?_eq_some_iff.1 hq2).1 nd).1 (hq2.trans hq.symm)
      subst ef
      refine ⟨o', _, upd_self _ _ _, ho, fun u => ?_⟩
      rw [mget_mset]
      by_cases g : v = u
      · subst g; rw [if_pos rfl, putL_self]; rfl
      · rw [if_neg g, putL_ne (fun e => by cases e; exact g rfl)]; exact hm u
    · obtain ⟨_, o2, m2, h1, h2, h3⟩ := k.maps f2 q2 hq2
      refine ⟨o2, m2, (ne q2 e).trans h1, h2, fun u => ?_⟩
      rw [putL_ne (fun g => ?_)]
      · exact h3 u
      · cases g
        rw [hq] at hq2; cases hq2; exact e rfl
  · obtain ⟨l, h1, h2, h3⟩ := k.arrs
    exact ⟨l, h1.frame fun a ob ha hob => (ne _ (k.nes hq h1 ha)).trans hob, h2, fun i y hy => by rw [putL_ne (fun e => by cases e)]; exact h3 i y hy⟩
  · obtain ⟨l, h1, h2, h3⟩ := k.rets
    exact ⟨l, h1.frame fun a ob ha hob => (ne _ (k.nes hq h1 ha)).trans hob, h2, fun i y hy => by rw [putL_ne (fun e => by cases e)]; exact h3 i y hy⟩
/- something turned -/
theorem SolW.turn (k : SolW hB hh p r sa sf vs ar rs cs ws ids L tu) {b : Bool} {K : V → Prop} (hK : ∀ h', SolW hB h' p r sa sf vs ar rs cs ws ids L b → (∀ q, q ≠ r → h' q = hh q) → K h') : StL hh (Addr.add ⟨r, 0, none⟩ 8) 0 [.bool b] K := by
  rw [add_at, Nat.zero_add]
  refine StL_at [.bool b] _ 0 hh (by simp) k.box (fun _ _ => rfl) fun h' ⟨arr', h1, h2, h3⟩ hf => hK h' ?_ hf
  have hbox : Box h' r [sV sa, sV sf, iV p.main, sV vs, sV ar, sV rs, sV cs, sV ws, .bool b] 78 := by
    unfold Box
    rw [h1]
    congr 1
    simp at h3
    congr 1
    exact Array.ext' h3
  have hle : Le hB h' := fun q ob hq => by
    rw [hf q (fun e => by subst e; rw [k.newr] at hq; cases hq)]; exact k.le q ob hq
  refine ⟨hle, hbox, k.newr, fun f q hq => ⟨(k.maps f q hq).1, ?_⟩, ?_, ?_, k.dis⟩
  · obtain ⟨_, o, m, g1, g2⟩ := k.maps f q hq
    exact ⟨o, m, (hf q (k.ner hq)).trans g1, g2⟩
  · obtain ⟨l, g1, g2⟩ := k.arrs
    exact ⟨l, g1.frame fun a ob ha hob => (hf _ (k.nea g1 ha)).trans hob, g2⟩
  · obtain ⟨l, g1, g2⟩ := k.rets
    exact ⟨l, g1.frame fun a ob ha hob => (hf _ (k.nea g1 ha)).trans hob, g2⟩
/- a larger view, a box more -/
theorem SolW.view (k : SolW hB hh p r sa sf vs ar rs cs ws ids L tu) (l : Le hh h') : SolW hB h' p r sa sf vs ar rs cs ws ids L tu :=
  ⟨k.le.trans l, k.box.le l, k.newr, fun f q hq => ⟨(k.maps f q hq).1, let ⟨_, o, m, g1, g2⟩ := k.maps f q hq; ⟨o, m, l _ _ g1, g2⟩⟩,
    let ⟨x, g1, g2⟩ := k.arrs; ⟨x, g1.le l, g2⟩, let ⟨x, g1, g2⟩ := k.rets; ⟨x, g1.le l, g2⟩, k.dis⟩
theorem SolW.shrink {hC : V} (k : SolW hC hh p r sa sf vs ar rs cs ws ids L tu) (l : Le hB hC) : SolW hB hh p r sa sf vs ar rs cs ws ids L tu :=
  ⟨l.trans k.le, k.box, l.nil k.newr, fun f q hq => ⟨l.nil (k.maps f q hq).1, (k.maps f q hq).2⟩, let ⟨x, g1, g2⟩ := k.arrs; ⟨x, g1.base l, g2⟩, let ⟨x, g1, g2⟩ := k.rets; ⟨x, g1.base l, g2⟩, k.dis⟩
theorem OwnS.rebase {hC : V} {s : Sl} {T : TypeId} {xs : List Value} (o : OwnS hB hh s T 1 xs) (h : ∀ a, s.a = some a → hC a.block = none) : OwnS hC hh s T 1 xs := by
  obtain ⟨h1, h2, h3, h4⟩ := o
  refine ⟨h1, h2, h3, ?_⟩
  rcases h4 with h4 | ⟨r, off, arr, ha, hr0, hr, hsz, ht⟩
  · exact .inl h4
  · exact .inr ⟨r, off, arr, ha, h _ ha, hr, hsz, ht⟩
theorem SolW.grow (k : SolW hB hh p r sa sf vs ar rs cs ws ids L tu) {q : Nat} {o : Obj} (hq : hh q = none) (l : Le hh h') (hq' : h' q = some o) : SolW (hB.upd q o) h' p r sa sf vs ar rs cs ws ids L tu ∧ Le hB (hB.upd q o) := by
  have hBq : hB q = none := k.le.nil hq
  have ne : ∀ b, hh b ≠ none → hB b = none → (hB.upd q o) b = none := fun b hb hn => by
    rw [upd_ne (fun e => by subst e; exact hb hq)]; exact hn
  refine ⟨⟨fun b ob hb => ?_, k.box.le l, ne r (by have := k.box; unfold Box at this; rw [this]; simp) k.newr, fun f z hz => ?_, ?_, ?_, k.dis⟩, le_upd hBq _⟩
  · by_cases e : b = q
    · subst e; rw [upd_self] at hb; cases hb; exact hq'
    · rw [upd_ne e] at hb; exact l _ _ (k.le _ _ hb)
  · obtain ⟨h1, ob, m, h2, h3⟩ := k.maps f z hz
    exact ⟨ne z (by rw [h2]; simp) h1, ob, m, l _ _ h2, h3⟩
  · obtain ⟨x, h1, h2⟩ := k.arrs
    exact ⟨x, OwnS.rebase (h1.le l) fun a ha => by obtain ⟨g1, arr, g2⟩ := h1.blk ha; exact ne _ (by rw [g2]; simp) g1, h2⟩
  · obtain ⟨x, h1, h2⟩ := k.rets
    exact ⟨x, OwnS.rebase (h1.le l) fun a ha => by obtain ⟨g1, arr, g2⟩ := h1.blk ha; exact ne _ (by rw [g2]; simp) g1, h2⟩
/- what is known of the parts -/
theorem SolW.look (k : SolW hB hh p r sa sf vs ar rs cs ws ids L tu) (c : SolC hB p cut wr sa sf vs cs ws ids) {f : Nat} (hf : f < p.funcs.length) {v : Int} {K : Int → Bool → Prop} (hK : ∀ b, K (L (.val f v)) b) :
    ∃ q, ids[f]? = some q ∧ Look hh (some q) (.int .i64) (.int .i64 v) (.one (.int .i64)) (0 : Int) K := by
  have hlt : f < ids.length := by rw [c.len]; exact hf
  have hq : ids[f]? = some ids[f] := List.getElem?_eq_getElem hlt
  obtain ⟨_, o, m, h1, h2, h3⟩ := k.maps f _ hq
  exact ⟨_, hq, Look_map h1 h2 (by rw [h3 v]; exact hK _)⟩
end

theorem c_stays {h : V} {l : Int} {R : Value → V → Prop} (hR : R (iV (staysD l)) h) : ACalls Try.prog 38 [iV l] h R :=
  S38_ok _ _ _ (cond_eqi (fun e => Wk_self (by unfold staysD at hR; rw [if_pos e] at hR; exact hR)) (fun e => Wk_self (by unfold staysD at hR; rw [if_neg e] at hR; exact hR)))
end Go.Proofs.Ytaefmhephoilmaa
