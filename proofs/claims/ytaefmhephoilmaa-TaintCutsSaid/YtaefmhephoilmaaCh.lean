/- Contracts of package ssa: Check. -/
import Derived.Test.YtaefmhephoilmaaCg
namespace Go.Proofs.Ytaefmhephoilmaa
open Go Go.VL

def arrOk (a : ArrD) : Prop := 0 ≤ a.size ∧ a.size ≤ 4096 ∧ 0 ≤ a.hold ∧ a.hold ≤ 2
def blockOk (p : ProgD) (f : FuncD) (b : BlockD) : Prop := endsD f.blocks b.e = true ∧ ∀ i ∈ b.ins, rightD p i = true
def knownRun (bs : List BlockD) : Prop := ∃ st, KRun bs ⟨List.replicate bs.length none, []⟩ st ∧ ∀ (b : Nat) h bk, st.A[b]? = some (some h) → bs[b]? = some bk → usedD (st.S.getD h fun _ => false) bk = true
def knownOk (bs : List BlockD) : Prop := knownRun bs ∧ ∃ A T, A.length = bs.length ∧ (∀ r, A[0]? = some (some r) → ∀ v, T r v = false) ∧ FixA bs A T ∧ ∀ (b : Nat) r bk, A[b]? = some (some r) → bs[b]? = some bk → usedD (T r) bk = true
def funcOk (p : ProgD) (f : FuncD) : Prop := f.blocks ≠ [] ∧ f.params.length ≤ 6 ∧ onceD f.blocks = true ∧ (∀ b ∈ f.blocks, blockOk p f b) ∧ knownOk f.blocks
structure CheckOk (p : ProgD) : Prop where
  arrs : ∀ a ∈ p.arrays, arrOk a
  main0 : 0 ≤ p.main
  main1 : p.main.toNat < p.funcs.length
  main2 : ∀ f, p.funcs[p.main.toNat]? = some f → f.params = []
  funcs : ∀ f ∈ p.funcs, funcOk p f

def fewB (bs : List BlockD) : Prop := bs.length ≤ 1024 ∧ ∀ b ∈ bs, b.params.length ≤ 1024 ∧ b.ins.length ≤ 1024
theorem wayOk_to {bs : List BlockD} {w : EdgeD} (h : wayOk bs w = true) : 1 ≤ w.to ∧ w.to.toNat < bs.length := by
  unfold wayOk at h
  rw [Bool.and_eq_true_iff] at h
  refine ⟨by simpa using h.1, ?_⟩
  have := h.2
  split at this
  · rename_i b hb; exact (List.getElem?_eq_some_iff.1 hb).1
  · cases this
theorem endsD_ways {bs : List BlockD} {e : EndD} (h : endsD bs e = true) : ∀ w ∈ e.ways, wayOk bs w = true := by
  unfold endsD at h
  repeat (split at h; · cases h)
  exact List.all_eq_true.1 h

theorem c_Check {h : V} {p : ProgD} {sa sf : Sl} {R : Value → V → Prop} (ha : isArrs h sa p.arrays) (hf : isFuncs h sf p.funcs) (hfew : ∀ f ∈ p.funcs, fewB f.blocks)
    (hR : ∀ n : Int, n = 0 ∨ n = 40 → (n = 0 ↔ CheckOk p) → R (iV n) h) : ACalls Try.prog 10 [.agg ⟨[sV sa, sV sf, iV p.main]⟩] h R := by
  have h40 : ¬ CheckOk p → R (iV 40) h := fun hn => hR 40 (.inr rfl) ⟨fun e => (by cases e), fun e => absurd e hn⟩
  refine S10_ok _ _ _ _ _ (New_box fun r1 h1 hr1 l1 b1 => ⟨sa, b1.cell rfl, ?_⟩)
  refine Lp_count p.arrays.length (fun k st hh => st = ((k : Int), ()) ∧ Le h1 hh ∧ ∀ a ∈ p.arrays.take k, arrOk a) ⟨rfl, Le.refl _, by simp⟩ ?_
  rintro k _ h2 K hk ⟨rfl, l2, hall⟩ hK
  refine cond_dec (fun hlt => ?_) (fun hge => ?_)
  · have hk' : k < p.arrays.length := by have := ha.len; simp only at hlt; omega
    refine elem_arr ha (l1.trans l2) hk' rfl rfl fun r4 h4 l4 l4' hr4 b4 => ?_
    have bad : ∀ {x : Prop}, x → (arrOk p.arrays[k] → ¬ x) → Wk h4 fun h' => R (iV 40) h' := fun hx hn => Wk_le l4 (h40 fun ok => hn (ok.arrs _ (List.getElem_mem hk')) hx)
    refine ⟨_, b4.cell rfl, cond_dec (fun n1 => bad (show p.arrays[k].size < 0 from n1) fun ok => by have := ok.1; omega) (fun n1 => ⟨_, b4.cell rfl, cond_dec (fun n2 => bad (show p.arrays[k].size > 4096 from n2) fun ok => by have := ok.2.1; omega) (fun n2 => ⟨_, b4.cell rfl, cond_dec (fun n3 => bad (show p.arrays[k].hold < 0 from n3) fun ok => by have := ok.2.2.1; omega) (fun n3 => ⟨_, b4.cell rfl, cond_dec (fun n4 => bad (show p.arrays[k].hold > 2 from n4) fun ok => by have := ok.2.2.2; omega) (fun n4 => ?_)⟩)⟩)⟩)⟩
    refine Wk_self (hK _ _ hk' ⟨by rw [wnat hk' ha.bd], l2.trans l4', fun a hm => ?_⟩)
    rw [List.take_succ_eq_append_getElem hk'] at hm
    rcases List.mem_append.1 hm with g | g
    · exact hall a g
    · rw [List.mem_singleton.1 g]
      have n1 : ¬ p.arrays[k].size < 0 := n1
      have n2 : ¬ p.arrays[k].size > 4096 := n2
      have n3 : ¬ p.arrays[k].hold < 0 := n3
      have n4 : ¬ p.arrays[k].hold > 2 := n4
      exact ⟨by omega, by omega, by omega, by omega⟩
  · have : k = p.arrays.length := by have := ha.len; simp only at hge; omega
    subst this
    rw [List.take_of_length_le (Nat.le_refl _)] at hall
    have l02 := l1.trans l2
    have b2 := b1.le l2
    have hf2 := hf.le mono_func l02
    refine Cut_i (fun _ hh => h2 = hh ∧ 0 ≤ p.main ∧ p.main.toNat < p.funcs.length ∧ ∀ f, p.funcs[p.main.toNat]? = some f → f.params = []) (fun J hJ => ?_) ?_
    · refine ⟨_, b2.cell rfl, cond_dec (fun m0 => Wk_le l02 (h40 fun ok => by have := ok.main0; have m0 : p.main < 0 := m0; omega)) (fun m0 => ⟨_, b2.cell rfl, _, b2.cell rfl, cond_dec (fun m1 => Wk_le l02 (h40 fun ok => by have := ok.main0; have := ok.main1; have := hf.len; have m1 : p.main ≥ (sf.n : Int) := m1; omega)) (fun m1 => ⟨_, b2.cell rfl, _, b2.cell rfl, ?_⟩)⟩)⟩
      have m0 : ¬ p.main < 0 := m0
      have m1 : ¬ p.main ≥ (sf.n : Int) := m1
      have mlt : p.main.toNat < p.funcs.length := ix_lt hf (by omega) (by omega)
      refine hf2.ix (by omega) mlt fun a ⟨s, hs, hc⟩ => ⟨((p.funcs[p.main.toNat]'mlt).name, s, ()), hc, c_Params hs fun s' hs' => ⟨_, rfl, cond_dec (fun m2 => Wk_le l02 (h40 fun ok => ?_)) (fun m2 => Wk_self (hJ _ _ ⟨rfl, by omega, mlt, fun f hf' => ?_⟩))⟩⟩
      · have m2 : (s'.n : Int) > 0 := m2
        have e : s'.n = (p.funcs[p.main.toNat]'mlt).params.length := hs'.len
        rw [ok.main2 _ (List.getElem?_eq_getElem mlt)] at e
        simp at e; omega
      rw [List.getElem?_eq_getElem mlt] at hf'
      cases hf'
      have m2 : ¬ (s'.n : Int) > 0 := m2
      have e : s'.n = (p.funcs[p.main.toNat]'mlt).params.length := hs'.len
      exact List.eq_nil_of_length_eq_zero (by omega)
    · rintro _ _ ⟨rfl, m0, m1, m2⟩
      refine ⟨sf, b2.cell rfl, ?_⟩
      refine Lp_count p.funcs.length (fun k st hh => st = ((k : Int), ()) ∧ Le h2 hh ∧ ∀ f ∈ p.funcs.take k, funcOk p f) ⟨rfl, Le.refl _, by simp⟩ ?_
      rintro k _ h11 K1 hk ⟨rfl, l11, hfs⟩ hK1
      refine cond_dec (fun hlt => ?_) (fun hge => ?_)
      · have hk' : k < p.funcs.length := by have := hf.len; simp only at hlt; omega
        have hfm : p.funcs[k] ∈ p.funcs := List.getElem_mem hk'
        obtain ⟨few1, few2⟩ := hfew _ hfm
        refine elem_func hf2 l11 hk' rfl rfl fun sb hsb r6 h13 l13 l13' hr6 b6 => ?_
        generalize hfd : p.funcs[k] = f at *
        have l03 := l02.trans l13
        have B40 : ∀ {hh}, Le h13 hh → ¬ funcOk p f → Wk hh fun h' => R (iV 40) h' := fun l hn => Wk_le (l03.trans l) (h40 fun ok => hn (ok.funcs _ hfm))
        refine Cut_i (fun _ hh => h13 = hh ∧ f.blocks ≠ [] ∧ f.params.length ≤ 6 ∧ onceD f.blocks = true) (fun J hJ => ?_) ?_
        · refine ⟨_, b6.cell rfl, cond_eqi (fun g0 => B40 (Le.refl _) fun ok => ?_) (fun g0 => ⟨(f.name, sb, ()), b6.cells, c_Params (hsb.le mono_block l13) fun s' hs' => ⟨_, rfl, cond_dec (fun g1 => B40 (Le.refl _) fun ok => ?_) (fun g1 => ⟨(f.name, sb, ()), b6.cells, c_once (hsb.le mono_block l13) few2 ⟨_, rfl, cond_not (fun g2 => B40 (Le.refl _) fun ok => by have g2 : onceD f.blocks = false := g2; rw [ok.2.2.1] at g2; cases g2) (fun g2 => Wk_self (hJ _ _ ⟨rfl, ?_, ?_, g2⟩))⟩⟩)⟩⟩)⟩
          · have g0 : (sb.n : Int) = 0 := g0
            exact ok.1 (List.eq_nil_of_length_eq_zero (by have := hsb.len; omega))
          · have g1 : (s'.n : Int) > 6 := g1
            have e : s'.n = f.params.length := hs'.len
            have := ok.2.1
            omega
          · intro e
            have g0 : (sb.n : Int) ≠ 0 := g0
            have := hsb.len
            rw [e] at this
            simp at this; omega
          · have g1 : ¬ (s'.n : Int) > 6 := g1
            have e : s'.n = f.params.length := hs'.len
            omega
        · rintro _ _ ⟨rfl, g0, g1, g2⟩
          refine ⟨sb, b6.cell rfl, ?_⟩
          refine Lp_count f.blocks.length (fun j st hh => st = ((j : Int), ()) ∧ Le h13 hh ∧ ∀ b ∈ f.blocks.take j, blockOk p f b) ⟨rfl, Le.refl _, by simp⟩ ?_
          rintro j _ h15 K2 hj ⟨rfl, l15, hbs⟩ hK2
          refine cond_dec (fun hlt => ?_) (fun hge => ?_)
          · have hj' : j < f.blocks.length := by have := hsb.len; simp only at hlt; omega
            refine elem_block (hsb.le mono_block l13) l15 hj' rfl rfl fun q i w hq hi hw r8 h17 l17 l17' hr8 b8 => ?_
            have b1' := b2.le (l13.trans l17)
            have hw' : isEdges h17 w f.blocks[j].e.ways := hw.le mono_edge l17
            refine ⟨(f.name, sb, ()), (b6.le l17).cells, (f.blocks[j].e.kind, f.blocks[j].e.val, w, f.blocks[j].e.trap, ()), ?_, c_ends ((hsb.le mono_block l13).le mono_block l17) hw' ⟨_, rfl, cond_not (fun e1 => B40 l17 fun ok => by have e1 : endsD f.blocks f.blocks[j].e = false := e1; rw [(ok.2.2.2.1 _ (List.getElem_mem hj')).1] at e1; cases e1) (fun e1 => ⟨i, b8.cell rfl, ?_⟩)⟩⟩
            · refine cellsAt_of fun n v hv => ?_
              rw [Addr.add_add]
              refine b8.cell ?_
              rw [Nat.zero_add]
              match n, hv with
              | 0, hv => exact hv
              | 1, hv => exact hv
              | 2, hv => exact hv
              | 3, hv => exact hv
            · refine c_contains_ins (q := fun i => !rightD p i) (hi.le mono_ins l17) (fun i' p' K' hp' hK' => ?_) ⟨_, rfl, cond_b (fun e2 => B40 l17 fun ok => ?_) (fun e2 => ?_)⟩
              · exact c_wrong b1'.cells (ha.le mono_arr (l03.trans l17)) (hf.le mono_func (l03.trans l17)) hp' ⟨_, rfl, hK'⟩
              · obtain ⟨i', hi', e3⟩ := List.any_eq_true.1 e2
                rw [(ok.2.2.2.1 _ (List.getElem_mem hj')).2 i' hi'] at e3
                cases e3
              · refine Wk_self (hK2 _ _ hj' ⟨by rw [wnat hj' hsb.bd], l17, fun b hm => ?_⟩)
                rw [List.take_succ_eq_append_getElem hj'] at hm
                rcases List.mem_append.1 hm with g | g
                · exact hbs b g
                · rw [List.mem_singleton.1 g]
                  refine ⟨e1, fun i' hi' => ?_⟩
                  have := List.any_eq_false.1 e2 i' hi'
                  simpa using this
          · have : j = f.blocks.length := by have := hsb.len; simp only at hge; omega
            subst this
            rw [List.take_of_length_le (Nat.le_refl _)] at hbs
            have hto : ∀ b ∈ f.blocks, ∀ w ∈ b.e.ways, 1 ≤ w.to ∧ w.to.toNat < f.blocks.length := fun b hb w hw => wayOk_to (endsD_ways (hbs b hb).1 w hw)
            have hsb5 := (hsb.le mono_block l13).le mono_block l15
            refine ⟨(f.name, sb, ()), (b6.le l15).cells, c_known hsb5 (by omega) hto fun s' h23 A T l23 hA lenA hset hzero hfix ⟨ids, st, rf, run⟩ => ⟨_, rfl, ?_⟩⟩
            have lA := l15.trans l23
            refine Lp_count A.length (fun m st hh => st = ((m : Int), ()) ∧ h23 = hh ∧ ∀ (b : Nat) r bk, b < m → A[b]? = some (some r) → f.blocks[b]? = some bk → usedD (T r) bk = true) ⟨rfl, rfl, fun b _ _ hb => by omega⟩ ?_
            rintro m _ _ K3 hm ⟨rfl, rfl, hused⟩ hK3
            refine cond_dec (fun hlt => ?_) (fun hge => ?_)
            · have hm' : m < A.length := by have := hA.len; simp only at hlt; omega
              have hmb : m < f.blocks.length := by omega
              refine hA.ixn hm' fun a ha' => ⟨A[m], ha', ?_⟩
              cases hx : A[m] with
              | none =>
                refine cond_not (fun e => by cases e) (fun _ => Wk_self (hK3 _ _ hm' ⟨by rw [wnat hm' hA.bd], rfl, fun b r bk hb hbr hbk => ?_⟩))
                rcases Nat.lt_or_ge b m with g | g
                · exact hused b r bk g hbr hbk
                · have : b = m := by omega
                  subst this
                  rw [List.getElem?_eq_getElem hm', hx] at hbr
                  cases hbr
              | some r =>
                have hAm : A[m]? = some (some r) := by rw [List.getElem?_eq_getElem hm', hx]
                obtain ⟨o, ho, hso⟩ := hset m r hAm
                refine cond_not (fun _ => ⟨sb, (b6.le lA).cell rfl, ?_⟩) (fun e => by cases e)
                refine (hsb5.le mono_block l23).ixn hmb fun a2 ⟨q, i, w, hq, hi, hw, hc⟩ => ⟨(q, i, _, _, w, _, ()), hc, c_used ho hso hq hi hw ⟨_, rfl, cond_not (fun hu => B40 lA fun ok => ?_) (fun hu => Wk_self (hK3 _ _ hm' ⟨by rw [wnat hm' hA.bd], rfl, fun b r' bk hb hbr hbk => ?_⟩))⟩⟩
                · obtain ⟨⟨st', run', hu'⟩, _⟩ := ok.2.2.2.2
                  cases run.det run'
                  obtain ⟨i3, e1, e2, e3⟩ := rf.isS hAm
                  have := hu' m i3 _ e1 (List.getElem?_eq_getElem hmb)
                  rw [e3] at this
                  have hu : usedD (T r) f.blocks[m] = false := hu
                  rw [hu] at this; cases this
                rcases Nat.lt_or_ge b m with g | g
                · exact hused b r' bk g hbr hbk
                · have : b = m := by omega
                  subst this
                  rw [hAm] at hbr
                  rw [List.getElem?_eq_getElem hmb] at hbk
                  cases hbr
                  cases hbk
                  exact hu
            · have : m = A.length := by have := hA.len; simp only at hge; omega
              subst this
              refine Wk_self (hK1 _ _ hk' ⟨by rw [wnat hk' hf.bd], (l11.trans l13').trans lA, fun f' hm => ?_⟩)
              rw [List.take_succ_eq_append_getElem hk'] at hm
              rcases List.mem_append.1 hm with g | g
              · exact hfs f' g
              · rw [List.mem_singleton.1 g, hfd]
                refine ⟨g0, g1, g2, hbs, ⟨st, run, fun b h bk hb hbk => ?_⟩, A, T, lenA, hzero, hfix, fun b r bk hb hbk => hused b r bk (List.getElem?_eq_some_iff.1 hb).1 hb hbk⟩
                have hlt := rf.bd b h hb
                have hi := List.getElem?_eq_getElem hlt
                have hA' : A[b]? = some (some ids[h]) := by rw [rf.get b, hb]; simp [List.getD_eq_getElem?_getD, hi]
                rw [rf.t h _ hi]
                exact hused b _ bk (List.getElem?_eq_some_iff.1 hA').1 hA' hbk
      · have : k = p.funcs.length := by have := hf.len; simp only at hge; omega
        subst this
        rw [List.take_of_length_le (Nat.le_refl _)] at hfs
        exact Wk_le (l02.trans l11) (hR 0 (.inl rfl) ⟨fun _ => ⟨hall, m0, m1, m2, hfs⟩, fun _ => rfl⟩)
end Go.Proofs.Ytaefmhephoilmaa
