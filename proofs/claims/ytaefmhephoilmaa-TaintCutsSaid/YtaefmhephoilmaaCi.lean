/- Contracts: Few. -/
import Derived.Test.YtaefmhephoilmaaCh
import Derived.Test.YtaefmhephoilmaaSd
namespace Go.Proofs.Ytaefmhephoilmaa
open Go Go.VL

structure FewIns (i : InsD) : Prop where
  args : i.args.length ≤ 20
structure FewBlock (b : BlockD) : Prop where
  params : b.params.length ≤ 20
  ins : b.ins.length ≤ 40
  ways : b.e.ways.length ≤ 5
  args : ∀ i ∈ b.ins, i.args.length ≤ 20
  wargs : ∀ w ∈ b.e.ways, w.args.length ≤ 20
structure FewFunc (f : FuncD) : Prop where
  blocks : f.blocks.length ≤ 30
  name : f.name.size ≤ 40
  all : ∀ b ∈ f.blocks, FewBlock b
structure FewOk (p : ProgD) : Prop where
  arrays : p.arrays.length ≤ 10
  funcs : p.funcs.length ≤ 5
  all : ∀ f ∈ p.funcs, FewFunc f

theorem mem_take_succ {α : Type} {l : List α} {k : Nat} {P : α → Prop} (hk : k < l.length) (h : ∀ x ∈ l.take k, P x) (hx : P l[k]) : ∀ x ∈ l.take (k + 1), P x := by
  intro x hm
  rw [List.take_succ_eq_append_getElem hk] at hm
  rcases List.mem_append.1 hm with g | g
  · exact h x g
  · rw [List.mem_singleton.1 g]; exact hx

theorem c_Few {h : V} {p : ProgD} {sa sf : Sl} {R : Value → V → Prop} (ha : isArrs h sa p.arrays) (hf : isFuncs h sf p.funcs) (hR : ∀ b : Bool, (b = true → FewOk p) → R (.bool b) h) : ACalls Try.prog 8 [.agg ⟨[sV sa, sV sf, iV p.main]⟩] h R := by
  have hF : R (.bool false) h := hR false (fun e => by cases e)
  refine S8_ok _ _ _ _ _ (New_box fun r1 h1 hr1 l1 b1 => ?_)
  refine Cut_i (fun _ hh => h1 = hh ∧ p.arrays.length ≤ 10 ∧ p.funcs.length ≤ 5) (fun J hJ => ?_) ?_
  · refine ⟨sa, b1.cell rfl, cond_dec (fun _ => Wk_le l1 hF) (fun g1 => ⟨sf, b1.cell rfl, cond_dec (fun _ => Wk_le l1 hF) (fun g2 => Wk_self (hJ _ _ ⟨rfl, ?_, ?_⟩))⟩)⟩
    · have g1 : ¬ (sa.n : Int) > 10 := g1
      have := ha.len; omega
    · have g2 : ¬ (sf.n : Int) > 5 := g2
      have := hf.len; omega
  · rintro _ _ ⟨rfl, g1, g2⟩
    refine ⟨sf, b1.cell rfl, ?_⟩
    refine Lp_count p.funcs.length (fun k st hh => st = ((k : Int), ()) ∧ Le h1 hh ∧ ∀ f ∈ p.funcs.take k, FewFunc f) ⟨rfl, Le.refl _, by simp⟩ ?_
    rintro k _ h3 K hk ⟨rfl, l3, hall⟩ hK
    refine cond_dec (fun hlt => ?_) (fun hge => ?_)
    · have hk' : k < p.funcs.length := by have := hf.len; simp only at hlt; omega
      refine elem_func hf (l1.trans l3) hk' rfl rfl fun sb hsb r4 h5 l5 l5' hr4 b4 => ?_
      refine Cut_i (fun _ hh => h5 = hh ∧ p.funcs[k].blocks.length ≤ 30 ∧ p.funcs[k].name.size ≤ 40) (fun J hJ => ?_) ?_
      · refine ⟨sb, b4.cell rfl, cond_dec (fun _ => Wk_le l5 hF) (fun g3 => ⟨p.funcs[k].name, b4.cell rfl, cond_dec (fun _ => Wk_le l5 hF) (fun g4 => Wk_self (hJ _ _ ⟨rfl, ?_, ?_⟩))⟩)⟩
        · have g3 : ¬ (sb.n : Int) > 30 := g3
          have := hsb.len; omega
        · have g4 : ¬ ((p.funcs[k].name.size : Nat) : Int) > 40 := g4
          omega
      · rintro _ _ ⟨rfl, g3, g4⟩
        refine ⟨sb, b4.cell rfl, ?_⟩
        refine Lp_count p.funcs[k].blocks.length (fun j st hh => st = ((j : Int), ()) ∧ Le h5 hh ∧ ∀ b ∈ p.funcs[k].blocks.take j, FewBlock b) ⟨rfl, Le.refl _, by simp⟩ ?_
        rintro j _ h7 K1 hj ⟨rfl, l7, hbs⟩ hK1
        refine cond_dec (fun hlt => ?_) (fun hge => ?_)
        · have hj' : j < p.funcs[k].blocks.length := by have := hsb.len; simp only at hlt; omega
          refine elem_block hsb (l5.trans l7) hj' rfl rfl fun q i w hq hi hw r6 h9 l9 l9' hr6 b6 => ?_
          refine Cut_i (fun _ hh => h9 = hh ∧ p.funcs[k].blocks[j].params.length ≤ 20 ∧ p.funcs[k].blocks[j].ins.length ≤ 40 ∧ p.funcs[k].blocks[j].e.ways.length ≤ 5) (fun J hJ => ?_) ?_
          · refine ⟨q, b6.cell rfl, cond_dec (fun _ => Wk_le l9 hF) (fun g5 => ⟨i, b6.cell rfl, cond_dec (fun _ => Wk_le l9 hF) (fun g6 => ⟨w, by rw [Addr.add_add]; exact b6.cell rfl, cond_dec (fun _ => Wk_le l9 hF) (fun g7 => Wk_self (hJ _ _ ⟨rfl, ?_, ?_, ?_⟩))⟩)⟩)⟩
            · have g5 : ¬ (q.n : Int) > 20 := g5
              have := hq.len; omega
            · have g6 : ¬ (i.n : Int) > 40 := g6
              have := hi.len; omega
            · have g7 : ¬ (w.n : Int) > 5 := g7
              have := hw.len; omega
          · rintro _ _ ⟨rfl, g5, g6, g7⟩
            refine ⟨i, b6.cell rfl, ?_⟩
            refine Lp_count p.funcs[k].blocks[j].ins.length (fun m st hh => st = ((m : Int), ()) ∧ Le h9 hh ∧ ∀ i ∈ p.funcs[k].blocks[j].ins.take m, i.args.length ≤ 20) ⟨rfl, Le.refl _, by simp⟩ ?_
            rintro m _ h11 K2 hm ⟨rfl, l11, his⟩ hK2
            refine cond_dec (fun hlt => ?_) (fun hge => ?_)
            · have hm' : m < p.funcs[k].blocks[j].ins.length := by have := hi.len; simp only at hlt; omega
              refine elem_ins hi (l9.trans l11) hm' rfl rfl fun z hz r8 h13 l13 l13' hr8 b8 => ?_
              refine ⟨z, b8.cell rfl, cond_dec (fun _ => Wk_le l13 hF) (fun g8 => Wk_self (hK2 _ _ hm' ⟨by rw [wnat hm' hi.bd], l11.trans l13', mem_take_succ hm' his ?_⟩))⟩
              have g8 : ¬ (z.n : Int) > 20 := g8
              have := hz.len; omega
            · have : m = p.funcs[k].blocks[j].ins.length := by have := hi.len; simp only at hge; omega
              subst this
              rw [List.take_of_length_le (Nat.le_refl _)] at his
              refine ⟨w, by rw [Addr.add_add]; exact (b6.le l11).cell rfl, ?_⟩
              refine Lp_count p.funcs[k].blocks[j].e.ways.length (fun m st hh => st = ((m : Int), ()) ∧ Le h11 hh ∧ ∀ i ∈ p.funcs[k].blocks[j].e.ways.take m, i.args.length ≤ 20) ⟨rfl, Le.refl _, by simp⟩ ?_
              rintro n _ h16 K3 hn ⟨rfl, l16, hws⟩ hK3
              refine cond_dec (fun hlt => ?_) (fun hge => ?_)
              · have hn' : n < p.funcs[k].blocks[j].e.ways.length := by have := hw.len; simp only at hlt; omega
                refine elem_edge hw ((l9.trans l11).trans l16) hn' rfl rfl fun z hz r10 h18 l18 l18' hr10 b10 => ?_
                refine ⟨z, b10.cell rfl, cond_dec (fun _ => Wk_le l18 hF) (fun g8 => Wk_self (hK3 _ _ hn' ⟨by rw [wnat hn' hw.bd], l16.trans l18', mem_take_succ hn' hws ?_⟩))⟩
                have g8 : ¬ (z.n : Int) > 20 := g8
                have := hz.len; omega
              · have : n = p.funcs[k].blocks[j].e.ways.length := by have := hw.len; simp only at hge; omega
                subst this
                rw [List.take_of_length_le (Nat.le_refl _)] at hws
                exact Wk_self (hK1 _ _ hj' ⟨by rw [wnat hj' hsb.bd], ((l7.trans l9').trans l11).trans l16, mem_take_succ hj' hbs ⟨g5, g6, g7, his, hws⟩⟩)
        · have : j = p.funcs[k].blocks.length := by have := hsb.len; simp only at hge; omega
          subst this
          rw [List.take_of_length_le (Nat.le_refl _)] at hbs
          exact Wk_self (hK _ _ hk' ⟨by rw [wnat hk' hf.bd], (l3.trans l5').trans l7, mem_take_succ hk' hall ⟨g3, g4, hbs⟩⟩)
    · have : k = p.funcs.length := by have := hf.len; simp only at hge; omega
      subst this
      rw [List.take_of_length_le (Nat.le_refl _)] at hall
      exact Wk_le (l1.trans l3) (hR true fun _ => ⟨g1, g2, hall⟩)
end Go.Proofs.Ytaefmhephoilmaa
