/- Contracts of package taint: Of. -/
import Derived.Test.YtaefmhephoilmaaCs
namespace Go.Proofs.Ytaefmhephoilmaa
open Go Go.VL

def repVals (h : V) (a : Addr) (g : Int → Int) : Prop := ∃ q o m, cellq h a = some (.map (some q)) ∧ h q = some o ∧ MapRep (.int .i64) o m ∧ ∀ v, (mget m v).getD (0 : Int) = g v
theorem mono_vals : Mono repVals := fun _ _ _ _ l ⟨q, o, m, h1, h2, h3⟩ => ⟨q, o, m, cellq_le l h1, l _ _ h2, h3⟩
structure LabW (h : V) (p : ProgD) (vs ar rs cs : Sl) (L : LabF) : Prop where
  vals : isSl repVals 1 h vs ((List.range p.funcs.length).map fun f v => L (.val f v))
  arrs : isInts h ar ((List.range p.arrays.length).map fun i => L (.arr i))
  rets : isInts h rs ((List.range p.funcs.length).map fun i => L (.ret i))
  cut : cs.n = p.funcs.length
def cutOf (l : List (Int → Bool)) : CutF := fun f v => (l.getD f fun _ => false) v
def V.dels (h : V) (l : List Nat) : V := fun b => if b ∈ l then none else h b
theorem dels_in {h : V} {l : List Nat} {b : Nat} (hb : b ∈ l) : V.dels h l b = none := by simp [V.dels, hb]
theorem dels_out {h : V} {l : List Nat} {b : Nat} (hb : b ∉ l) : V.dels h l b = h b := by simp [V.dels, hb]
def labA (a : ArrD) : Int := if a.hold = 2 then 2 else 0
theorem few_B {p : ProgD} (few : FewOk p) : ∀ f ∈ p.funcs, fewB f.blocks := fun f hf => ⟨by have := (few.all f hf).blocks; omega, fun b hb => by have := ((few.all f hf).all b hb).params; have := ((few.all f hf).all b hb).ins; omega⟩

theorem c_Of {h : V} {p : ProgD} {sa sf pc : Sl} {cutIn : List (Int → Bool)} {R : Value → V → Prop} (ha : isArrs h sa p.arrays) (hf : isFuncs h sf p.funcs) (hc : isSl repCut 1 h pc cutIn) (few : FewOk p)
    (hR1 : ¬ CheckOk p → R (.tuple ⟨[.agg ⟨[.slice none 0 0, .slice none 0 0, .slice none 0 0, .slice none 0 0]⟩, iV 40]⟩) h)
    (hR2 : CheckOk p → ∀ h' vs ar rs cs L, Le h h' → LabW h' p vs ar rs cs L → LeastL p (cutOf cutIn) (writesD p) L → R (.tuple ⟨[.agg ⟨[sV vs, sV ar, sV rs, sV cs]⟩, iV 0]⟩) h') :
    ACalls Try.prog 9 [.agg ⟨[sV sa, sV sf, iV p.main]⟩, sV pc] h R := by
  refine S9_ok _ _ _ _ _ _ (New_box fun r2 h1 hr2 l1 b2 => New_box fun r4 h2 hr4 l2 b4 => ⟨(sa, sf, p.main, ()), (b2.le l2).cells, ?_⟩)
  have l02 := l1.trans l2
  refine c_Check (ha.le mono_arr l02) (hf.le mono_func l02) (few_B few) fun n hn0 hn => ⟨_, rfl, cond_nei (fun hne => ?_) (fun heq => ?_)⟩
  · have hne : n ≠ 0 := hne
    refine StL_box (h := h1) b4 rfl l2 hr4 fun h4 l4 b4' f4 => ⟨(⟨none, 0, 0⟩, ⟨none, 0, 0⟩, ⟨none, 0, 0⟩, ⟨none, 0, 0⟩, ()), b4'.cells, Wk_le (l1.trans l4) (hR1 fun ok => hne (hn.2 ok))⟩
  have heq : n = 0 := heq
  have ok := hn.1 heq
  refine ⟨(sa, sf, p.main, ()), (b2.le l2).cells, (sa, sf, p.main, ()), (b2.le l2).cells, c_Writes (ha.le mono_arr l02) (hf.le mono_func l02) (by have := few.arrays; omega) fun ws h6 l6 o6 f6 => ⟨_, rfl, l6, New_box fun r h7 hr l7 b => ⟨sf, ((b2.le l2).le (l6.trans l7)).cell rfl, ?_⟩⟩⟩
  have nf := hf.len
  have na := ha.len
  have hfew5 := few.funcs
  have l06 := l02.trans l6
  have b2' := (b2.le l2).le l6
  refine Lp_count p.funcs.length (fun k st hh => st = ((k : Int), ()) ∧ ∃ vs cs ids cl, Pre h6 hh p (cutOf cutIn) r sa sf vs cs ws ids cl ∧ ids.length = k)
    ⟨rfl, ⟨none, 0, 0⟩, ⟨none, 0, 0⟩, [], [], ⟨l7, hr, b, OwnS_nil _ _ _ _, OwnS_nil _ _ _ _, rfl, List.nodup_nil, by simp, by simp, by simp⟩, rfl⟩ ?_
  rintro k _ h8 K hk ⟨rfl, vs, cs, ids, cl, k8, hlen⟩ hK
  refine cond_dec (fun hlt => ?_) (fun hge => ?_)
  · have hk' : k < p.funcs.length := by simp only at hlt; omega
    refine of_more k8 (by omega) (fun r45 h13 J m45 n45 l13 hJ => ?_) (fun h' vs' cs' ids' cl' k' hl => hK _ _ hk' ⟨by rw [wnat hk' hf.bd], vs', cs', ids', cl', k', by omega⟩)
    subst hlen
    refine cond_dec (fun hlt => ?_) (fun hge => ?_)
    · have hkc : ids.length < cutIn.length := by have := hc.len; simp only at hlt; omega
      refine hc.ixn hkc fun a ⟨q, hq, hcq⟩ => ⟨q, cellq_le (l06.trans l13) hq, copy_map (cutQ_le (l06.trans l13) hcq) m45 (fun x hx e => ?_) fun h' f' hm => hJ h' f' ?_⟩
      · subst hx e
        obtain ⟨o, m, g1, g2, g3⟩ := hcq
        have := l06 _ _ g1
        rw [n45] at this; cases this
      · obtain ⟨o, m, g1, g2, g3⟩ := hm
        refine ⟨o, m, g1, g2, fun v => ?_⟩
        rw [g3]; unfold cutOf; rw [getD_lt hkc]
    · refine Wk_self (hJ h13 (fun _ _ _ => rfl) ⟨_, [], m45, MapRep.empty _, fun v => ?_⟩)
      have : cutIn.length ≤ ids.length := by have := hc.len; simp only at hge; omega
      rw [mget_nil]
      unfold cutOf
      rw [List.getD_eq_getElem?_getD, List.getElem?_eq_none this]; rfl
  have : k = p.funcs.length := by simp only at hge; omega
  subst this
  have hlc := k8.len
  refine ⟨sf, (b2'.le k8.le).cell rfl, ?_⟩
  refine MkSl_own (by omega) (by omega) fun s80 h26 l26 o26 n26 f26 ⟨a80, ha80⟩ => ?_
  rw [nf] at o26 n26
  have box26 := k8.box.le l26
  rw [Addr.add_add]
  refine Box_st (i := 5) box26 (by simp) fun h27 box27 f27 => ?_
  have box27 : Box h27 r [sV sa, sV sf, iV p.main, sV vs, .slice none 0 0, sV s80, sV cs, sV ws, .bool false] 78 := box27
  have keep27 : ∀ q, q ≠ r → ∀ o, h8 q = some o → h27 q = some o := fun q hq o ho => by rw [f27 q hq]; exact l26 _ _ ho
  have le27 : Le h6 h27 := fun q o hq => keep27 q (fun e => by subst e; rw [k8.newr] at hq; cases hq) o (k8.le _ _ hq)
  refine ⟨sa, (b2'.le le27).cell rfl, ?_⟩
  -- what stays: all but the solver itself
  have o27 : OwnS h8 h27 s80 42 1 (List.replicate p.funcs.length (iV 0)) := o26.frame fun a ob ha' hob => (f27 _ (own_box o26 box26 (by decide) ha')).trans hob
  obtain ⟨n80, arr80, h80⟩ := o27.blk ha80
  have b80r : a80.block ≠ r := own_box o27 box27 (by decide) ha80
  have lD6 : Le h6 (V.del h27 r) := fun q o hq => by
    rw [del_ne (fun e => by subst e; rw [k8.newr] at hq; cases hq)]; exact le27 _ _ hq
  have lDh := l06.trans lD6
  refine Lp_count p.arrays.length (fun k st hh => st = ((k : Int), ()) ∧ ∃ ar, Le (V.del h27 r) hh ∧ Box hh r [sV sa, sV sf, iV p.main, sV vs, sV ar, sV s80, sV cs, sV ws, .bool false] 78 ∧ OwnS (V.del h27 r) hh ar 42 1 (((p.arrays.take k).map labA).map (Value.int .i64)))
    ⟨rfl, ⟨none, 0, 0⟩, del_le _ _, box27, OwnS_nil _ _ _ _⟩ ?_
  rintro k _ h28 K2 hk ⟨rfl, ar, l28, box28, o28⟩ hK2
  have few10 := few.arrays
  refine cond_dec (fun hlt => ?_) (fun hge => ?_)
  · have hk' : k < p.arrays.length := by have := ha.len; simp only at hlt; omega
    refine elem_arr ha (lDh.trans l28) hk' rfl rfl fun r12 h30 l30 l30' hr12 b12 => ?_
    refine Cut_i (fun st hh => h30 = hh ∧ st.1 = labA p.arrays[k]) (fun J hJ => ?_) ?_
    · refine ⟨_, b12.cell rfl, cond_eqi (fun e => Wk_self (hJ _ _ ⟨rfl, ?_⟩)) (fun e => Wk_self (hJ _ _ ⟨rfl, ?_⟩))⟩
      · have e : p.arrays[k].hold = 2 := e
        unfold labA; rw [if_pos e]
      · have e : ¬ p.arrays[k].hold = 2 := e
        unfold labA; rw [if_neg e]
    · rintro ⟨lab, u⟩ _ ⟨rfl, e⟩
      have e : lab = _ := e
      subst e
      refine ⟨ar, by rw [Addr.add_add]; exact (box28.le l30').cell rfl, New_box fun r101 h32 hr101 l32 b101 => ?_⟩
      have l2832 := l30'.trans l32
      have o32 := o28.le l2832
      have box32 := box28.le l2832
      have nar := o28.1
      simp only [List.length_map, List.length_take, Nat.mul_one] at nar
      refine App_one (l28.trans l2832) o32 b101 rfl (by omega) (by omega) fun s102 h33 l33 o33 n33 f33 d33 => ?_
      have box33 : Box h33 r [sV sa, sV sf, iV p.main, sV vs, sV ar, sV s80, sV cs, sV ws, .bool false] 78 := by
        unfold Box
        rw [f33 r (fun a ha' e => own_box o32 box32 (by decide) ha' e.symm) (by unfold Box at box32; rw [box32]; simp)]
        exact box32
      rw [Addr.add_add]
      refine Box_st (i := 4) box33 (by simp) fun h34 box34 f34 => ?_
      refine Wk_self (hK2 _ _ hk' ⟨by rw [wnat hk' ha.bd], s102, fun q o hq => ?_, box34, ?_⟩)
      · rw [f34 q (fun e => by subst e; rw [del_self] at hq; cases hq)]; exact l33 _ _ hq
      · have := o33.frame (h' := h34) fun a ob ha' hob => (f34 _ (own_box o33 box33 (by decide) ha')).trans hob
        rw [List.take_succ_eq_append_getElem hk', List.map_append, List.map_append]
        exact this
  · have : k = p.arrays.length := by have := ha.len; simp only at hge; omega
    subst this
    rw [List.take_of_length_le (Nat.le_refl _)] at o28
    -- the base of the rounds: all but what they may turn
    have idsD : ∀ q ∈ ids, V.del h27 r q = some (.map #[] 0) := fun q hq => by
      obtain ⟨_, h1⟩ := k8.mi q hq
      have ne : q ≠ r := fun e => by subst e; have := k8.box; unfold Box at this; rw [h1] at this; cases this
      rw [del_ne ne]; exact keep27 q ne _ h1
    have out : ∀ q o, h8 q = some o → q ≠ r → q ∉ ids → V.dels h27 (r :: a80.block :: ids) q = some o := fun q o ho h1 h2 => by
      rw [dels_out]
      · exact keep27 q h1 o ho
      · simp only [List.mem_cons, not_or]
        exact ⟨h1, fun e => (by rw [e, n80] at ho; cases ho), h2⟩
    have lC6 : Le h6 (V.dels h27 (r :: a80.block :: ids)) := fun q o hq => out q o (k8.le _ _ hq) (fun e => by subst e; rw [k8.newr] at hq; cases hq) fun hm => by rw [(k8.mi q hm).1] at hq; cases hq
    have lCD : Le (V.dels h27 (r :: a80.block :: ids)) (V.del h27 r) := fun q o hq => by
      by_cases hm : q ∈ r :: a80.block :: ids
      · rw [dels_in hm] at hq; cases hq
      · rw [dels_out hm] at hq
        rw [del_ne (fun e => hm (by rw [e]; simp))]; exact hq
    have r4h6 : h6 r4 = some (.cells #[.slice none 0 0, .slice none 0 0, .slice none 0 0, .slice none 0 0] 33) := l6 _ _ b4
    -- slices and maps that stay, without the place of the result
    have slC : ∀ (s : Sl) (T : TypeId) (xs : List Nat), OwnS h6 h8 s T 1 (xs.map fun q => Value.map (some q)) → T ≠ 78 → isSl repMap 1 (V.del (V.dels h27 (r :: a80.block :: ids)) r4) s xs := fun s T xs o hT => by
      refine (OwnS.frame (h' := V.del (V.dels h27 (r :: a80.block :: ids)) r4) o fun a ob ha' hob => ?_).sl fun _ _ _ h => h
      obtain ⟨g1, arr, g2⟩ := o.blk ha'
      rw [del_ne (fun e => by rw [e, r4h6] at g1; cases g1)]
      refine out _ _ hob (own_box o k8.box hT ha') fun hm => ?_
      rw [(k8.mi _ hm).2] at g2; cases g2
    have lC4 : Le h1 (V.del (V.dels h27 (r :: a80.block :: ids)) r4) := fun q o hq => by
      rw [del_ne (fun e => by rw [e, hr4] at hq; cases hq)]
      exact lC6 _ _ (l6 _ _ (l2 _ _ hq))
    have cC : SolC (V.del (V.dels h27 (r :: a80.block :: ids)) r4) p (cutOf cutIn) (writesD p) sa sf vs cs ws ids := by
      refine ⟨ha.le mono_arr (l1.trans lC4), hf.le mono_func (l1.trans lC4), slC vs 56 ids k8.ov (by decide), hlen, k8.nd, ⟨cl, slC cs 29 cl k8.oc (by decide), by omega, fun f q hq => ?_⟩, ?_⟩
      · obtain ⟨g0, o, m, g1, g2, g3⟩ := k8.mc f q hq
        refine ⟨o, m, ?_, g2, g3⟩
        rw [del_ne (fun e => by rw [e, r4h6] at g0; cases g0)]
        refine out q o g1 (fun e => ?_) fun hm => k8.dis q hm (List.mem_of_getElem? hq)
        obtain ⟨es, clk, rfl⟩ := isMap_of g2
        have := k8.box
        unfold Box at this
        rw [← e, g1] at this; cases this
      · refine (OwnS.frame (h' := V.del (V.dels h27 (r :: a80.block :: ids)) r4) o6 fun a ob ha' hob => ?_).bools
        obtain ⟨g1, arr, g2⟩ := o6.blk ha'
        rw [del_ne (fun e => by rw [e, show h2 r4 = _ from b4] at g1; cases g1)]
        exact lC6 _ _ hob
    generalize hCdef : V.dels h27 (r :: a80.block :: ids) = hC at *
    have nC : ∀ q ∈ r :: a80.block :: ids, hC q = none := fun q hq => by rw [← hCdef]; exact dels_in hq
    have ar80 : ∀ a, ar.a = some a → a.block ≠ a80.block := fun a ha' e => by
      obtain ⟨g1, arr, g2⟩ := o28.blk ha'
      rw [e, del_ne b80r, h80] at g1; cases g1
    have kS : SolW hC h28 p r sa sf vs ar s80 cs ws ids (L0 p) false := by
      refine ⟨lCD.trans l28, box28, nC r (by simp), fun f q hq => ?_, ⟨p.arrays.map labA, OwnS.rebase o28 fun a ha' => ?_, by simp, fun i x hx => ?_⟩, ⟨List.replicate p.funcs.length 0, ?_, by simp, fun i x hx => ?_⟩, fun a b ha' hb' e => ?_⟩
      · have hm : q ∈ ids := List.mem_of_getElem? hq
        exact ⟨nC q (by simp [hm]), _, [], l28 _ _ (idsD q hm), MapRep.empty _, fun v => by rw [mget_nil]; rfl⟩
      · exact lCD.nil (o28.blk ha').1
      · rw [List.getElem?_map] at hx
        cases hpa : p.arrays[i]? with
        | none => rw [hpa] at hx; cases hx
        | some y =>
          rw [hpa] at hx
          cases hx
          unfold L0
          simp only [hpa, labA]
      · have : OwnS h8 h28 s80 42 1 (List.replicate p.funcs.length (iV 0)) := o27.frame fun a ob ha' hob => l28 _ _ (by rw [ha80] at ha'; cases ha'; rw [del_ne b80r]; exact hob)
        rw [List.map_replicate]
        exact OwnS.rebase this fun a ha' => by rw [ha80] at ha'; cases ha'; exact nC _ (by simp)
      · rw [List.getElem?_replicate] at hx
        split at hx
        · cases hx; rfl
        · cases hx
      · rw [ha80] at hb'
        cases hb'
        exact ar80 a ha' e
    refine kS.turn (b := true) fun h38 k38 _ => ?_
    refine of_main k38 (cC.le (del_le _ _)) ok (fun f hf' => by have := (few.all f hf').blocks; omega) (b2'.le lC6) fun h39 L k39 hL => ?_
    have b4' : Box h39 r4 [.slice none 0 0, .slice none 0 0, .slice none 0 0, .slice none 0 0] 33 := k39.le _ _ (lC6 _ _ r4h6)
    refine ⟨(vs, ar, s80, cs, ()), ?_, ?_⟩
    · refine cellsAt_of fun n v hv => ?_
      rw [Addr.add_add]
      refine k39.box.cell ?_
      rw [Nat.zero_add]
      match n, hv with
      | 0, hv => exact hv
      | 1, hv => exact hv
      | 2, hv => exact hv
      | 3, hv => exact hv
    · refine StL_box (h := V.del h39 r4) b4' rfl (del_le _ _) (del_self _ _) fun h51 l51 b51 f51 => ⟨(vs, ar, s80, cs, ()), b51.cells, Wk_self (hR2 ok h51 vs ar s80 cs L (fun q o hq => ?_) ⟨?_, ?_, ?_, ?_⟩ hL)⟩
      · have hq1 := l1 _ _ hq
        have ne : q ≠ r4 := fun e => by rw [e, hr4] at hq1; cases hq1
        rw [f51 q ne]
        exact k39.le _ _ (lC6 _ _ (l6 _ _ (l2 _ _ hq1)))
      · have l4 : Le (V.del hC r4) h51 := fun q o hq => by
          have ne : q ≠ r4 := fun e => by rw [e, del_self] at hq; cases hq
          rw [f51 q ne]
          rw [del_ne ne] at hq
          exact k39.le _ _ hq
        obtain ⟨v1, v2, v3, v4⟩ := cC.vals.le mono_map l4
        refine ⟨by simpa [hlen] using v1, v2, v3, fun i hi => ?_⟩
        have hi' : i < ids.length := by simpa [hlen] using hi
        obtain ⟨a, g1, g2⟩ := v4 i hi'
        refine ⟨a, g1, ids[i], ?_⟩
        obtain ⟨_, o, m, m1, m2, m3⟩ := k39.maps i _ (List.getElem?_eq_getElem hi')
        obtain ⟨es, clk, rfl⟩ := isMap_of m2
        refine ⟨_, m, g2, ?_, m2, fun v => ?_⟩
        · rw [f51 _ (fun e => ?_)]
          · exact m1
          · unfold Box at b4'
            rw [← e, m1] at b4'; cases b4'
        · rw [m3]; simp
      · obtain ⟨l, g1, g2, g3⟩ := k39.arrs
        have e : l = (List.range p.arrays.length).map fun i => L (.arr i) := by
          apply List.ext_getElem?
          intro i
          rw [List.getElem?_map]
          by_cases hi : i < p.arrays.length
          · rw [List.getElem?_range hi, List.getElem?_eq_getElem (by omega)]
            exact congrArg some (g3 i _ (List.getElem?_eq_getElem (by omega)))
          · rw [List.getElem?_eq_none (by omega), List.getElem?_eq_none (by simpa using hi)]; rfl
        rw [← e]
        exact (OwnS.frame (h' := h51) g1 fun a ob ha' hob => (f51 _ (own_box g1 b4' (by decide) ha')).trans hob).ints
      · obtain ⟨l, g1, g2, g3⟩ := k39.rets
        have e : l = (List.range p.funcs.length).map fun i => L (.ret i) := by
          apply List.ext_getElem?
          intro i
          rw [List.getElem?_map]
          by_cases hi : i < p.funcs.length
          · rw [List.getElem?_range hi, List.getElem?_eq_getElem (by omega)]
            exact congrArg some (g3 i _ (List.getElem?_eq_getElem (by omega)))
          · rw [List.getElem?_eq_none (by omega), List.getElem?_eq_none (by simpa using hi)]; rfl
        rw [← e]
        exact (OwnS.frame (h' := h51) g1 fun a ob ha' hob => (f51 _ (own_box g1 b4' (by decide) ha')).trans hob).ints
      · have := k8.oc.1
        simp at this
        omega
end Go.Proofs.Ytaefmhephoilmaa
