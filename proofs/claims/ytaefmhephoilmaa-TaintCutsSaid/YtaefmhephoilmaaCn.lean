/- Contracts of package taint: block. -/
import Derived.Test.YtaefmhephoilmaaCm
namespace Go.Proofs.Ytaefmhephoilmaa
open Go Go.VL

theorem flatMap_take_succ {α β : Type} {l : List α} {k : Nat} {f : α → List β} (hk : k < l.length) : (l.take (k + 1)).flatMap f = (l.take k).flatMap f ++ f l[k] := by
  rw [List.take_succ_eq_append_getElem hk, List.flatMap_append]; simp
section
variable {hB hh : V} {p : ProgD} {r : Nat} {sa sf vs ar rs cs ws : Sl} {ids : List Nat} {L : LabF} {tu : Bool} {cut : CutF} {wr : List Bool} {R : Value → V → Prop}
theorem c_block {f : Nat} {b : BlockD} {q i w : Sl} (k : SolW hB hh p r sa sf vs ar rs cs ws ids L tu) (c : SolC hB p cut wr sa sf vs cs ws ids) (hf : f < p.funcs.length) (hb : blockOk p p.funcs[f] b)
    (hi : isInss hB i b.ins) (hw : isEdges hB w b.e.ways)
    (hR : ∀ h', SolW hB h' p r sa sf vs ar rs cs ws ids (runC (blockCons p cut wr f b) (L, tu)).1 (runC (blockCons p cut wr f b) (L, tu)).2 → R (.tuple ⟨[]⟩) h') :
    ACalls Try.prog 20 [.pointer (some ⟨r, 0, none⟩), iV (f : Int), .agg ⟨blockV b q i w⟩] hh R := by
  refine S20_ok _ _ _ _ _ _ _ _ _ _ (New_box fun r5 h1 hr5 l1 b5 => ⟨i, b5.cell rfl, ?_⟩)
  obtain ⟨k1, lC⟩ := k.grow hr5 l1 b5
  have bC : Box (hB.upd r5 (.cells ⟨blockV b q i w⟩ 55)) r5 (blockV b q i w) 55 := upd_self _ _ _
  have cC := c.le lC
  have iC : isInss (hB.upd r5 (.cells ⟨blockV b q i w⟩ 55)) i b.ins := hi.le mono_ins lC
  have wC : isEdges (hB.upd r5 (.cells ⟨blockV b q i w⟩ 55)) w b.e.ways := hw.le mono_edge lC
  have hR : ∀ h', SolW (hB.upd r5 (.cells ⟨blockV b q i w⟩ 55)) h' p r sa sf vs ar rs cs ws ids (runC (blockCons p cut wr f b) (L, tu)).1 (runC (blockCons p cut wr f b) (L, tu)).2 → R (.tuple ⟨[]⟩) h' := fun h' k' => hR h' (k'.shrink lC)
  generalize hB.upd r5 (.cells ⟨blockV b q i w⟩ 55) = hC at *
  refine Lp_count b.ins.length (fun j st hh => st = ((j : Int), ()) ∧ SolW hC hh p r sa sf vs ar rs cs ws ids (runC ((b.ins.take j).flatMap (insCons p cut wr f)) (L, tu)).1 (runC ((b.ins.take j).flatMap (insCons p cut wr f)) (L, tu)).2) ⟨rfl, k1⟩ ?_
  rintro j _ h2 K hj ⟨rfl, k2⟩ hK
  refine cond_dec (fun hl => ?_) (fun hge => ?_)
  · have hj' : j < b.ins.length := by have := iC.len; simp only at hl; omega
    refine elem_ins iC k2.le hj' rfl rfl fun z hz r7 h4 l4 l4' hr7 b7 => ⟨(b.ins[j].op, b.ins[j].dst, z, b.ins[j].num, b.ins[j].bin, b.ins[j].arr, b.ins[j].fn, ()), b7.cells, ?_⟩
    refine c_ins (k2.view l4') cC hf (hb.2 _ (List.getElem_mem hj')) hz fun h5 k5 => ⟨(), rfl, Wk_self (hK _ _ hj' ⟨by rw [wnat hj' iC.bd], ?_⟩)⟩
    rw [flatMap_take_succ hj', runC_append]
    exact k5
  · have : j = b.ins.length := by have := iC.len; simp only at hge; omega
    subst this
    rw [List.take_of_length_le (Nat.le_refl _)] at k2
    generalize hcs : b.ins.flatMap (insCons p cut wr f) = cs0 at *
    refine ⟨w, by rw [Addr.add_add]; exact (bC.le k2.le).cell rfl, ?_⟩
    have hways := endsD_ways hb.1
    refine Lp_count b.e.ways.length (fun j st hh => st = ((j : Int), ()) ∧ SolW hC hh p r sa sf vs ar rs cs ws ids (runC (cs0 ++ (b.e.ways.take j).flatMap (wayCons p cut f)) (L, tu)).1 (runC (cs0 ++ (b.e.ways.take j).flatMap (wayCons p cut f)) (L, tu)).2) ⟨rfl, by simpa using k2⟩ ?_
    rintro j _ h7 K1 hj ⟨rfl, k7⟩ hK1
    refine cond_dec (fun hl => ?_) (fun hge => ?_)
    · have hj' : j < b.e.ways.length := by have := wC.len; simp only at hl; omega
      have hwo := hways _ (List.getElem_mem hj')
      obtain ⟨t1, t2⟩ := wayOk_to hwo
      have hargs : b.e.ways[j].args.length = (p.funcs[f].blocks[b.e.ways[j].to.toNat]'t2).params.length := by
        unfold wayOk at hwo
        rw [Bool.and_eq_true_iff, List.getElem?_eq_getElem t2] at hwo
        simpa using hwo.2
      have hway : wayCons p cut f b.e.ways[j] = parCons cut f (p.funcs[f].blocks[b.e.ways[j].to.toNat]'t2).params (fun m L => L (.val f (b.e.ways[j].args.getD m 0))) (p.funcs[f].blocks[b.e.ways[j].to.toNat]'t2).params.length := by
        unfold wayCons
        rw [FuncD.at_eq hf, List.getElem?_eq_getElem t2]
      refine elem_edge wC k7.le hj' rfl rfl fun z hz r9 h9 l9 l9' hr9 b9 => ?_
      obtain ⟨k9, lD⟩ := k7.grow hr9 l9' b9
      have bD : Box (hC.upd r9 (.cells ⟨edgeV b.e.ways[j] z⟩ 74)) r9 (edgeV b.e.ways[j] z) 74 := upd_self _ _ _
      have cD := cC.le lD
      have zD : isInts (hC.upd r9 (.cells ⟨edgeV b.e.ways[j] z⟩ 74)) z b.e.ways[j].args := hz.le mono_int lD
      have fD := cD.funcs
      have hK1' : ∀ h', SolW (hC.upd r9 (.cells ⟨edgeV b.e.ways[j] z⟩ 74)) h' p r sa sf vs ar rs cs ws ids (runC (cs0 ++ (b.e.ways.take (j + 1)).flatMap (wayCons p cut f)) (L, tu)).1 (runC (cs0 ++ (b.e.ways.take (j + 1)).flatMap (wayCons p cut f)) (L, tu)).2 → K1 (IntKind.wrap .i64 ((j : Int) + 1), ()) h' :=
        fun h' k' => hK1 _ _ hj' ⟨by rw [wnat hj' wC.bd], k'.shrink lD⟩
      generalize hC.upd r9 (.cells ⟨edgeV b.e.ways[j] z⟩ 74) = hD at *
      rw [flatMap_take_succ hj', hway, ← List.append_assoc] at hK1'
      generalize (cs0 ++ (b.e.ways.take j).flatMap (wayCons p cut f)) = cs1 at *
      refine ⟨sf, by rw [Addr.add_add]; exact k9.box.cell rfl, fD.ixn hf fun a ⟨sb, hsb, hc⟩ => ⟨sb, cellq_le k9.le hc.2.1, _, (bD.le k9.le).cell0, ?_⟩⟩
      refine hsb.ix (by omega) t2 fun a2 ⟨pp, ii, ww, hp, _, _, hc2⟩ => ⟨pp, cellq_le k9.le hc2.1, ?_⟩
      generalize (p.funcs[f].blocks[b.e.ways[j].to.toNat]'t2).params = ps at *
      have hltf : f < ids.length := by rw [cD.len]; exact hf
      refine Lp_count ps.length (fun m st hh => st = ((m : Int), ()) ∧ SolW hD hh p r sa sf vs ar rs cs ws ids (runC (cs1 ++ parCons cut f ps (fun m L => L (.val f (b.e.ways[j].args.getD m 0))) m) (L, tu)).1 (runC (cs1 ++ parCons cut f ps (fun m L => L (.val f (b.e.ways[j].args.getD m 0))) m) (L, tu)).2) ⟨rfl, by simpa [parCons] using k9⟩ ?_
      rintro m _ h10 K2 hm ⟨rfl, k10⟩ hK2
      refine cond_dec (fun hl => ?_) (fun hge => ?_)
      · have hm' : m < ps.length := by have := hp.len; simp only at hl; omega
        obtain ⟨_, ob, mm, g1, g2, g3⟩ := k10.maps f _ (List.getElem?_eq_getElem hltf)
        refine (hp.le mono_int k10.le).ixn hm' fun a ha => ⟨_, ha, vs, by rw [Addr.add_add]; exact k10.box.cell rfl, ?_⟩
        refine (cD.vals.le mono_map k10.le).ixn hltf fun a hma => ⟨some ids[f], hma, z, (bD.le k10.le).cell rfl, (zD.le mono_int k10.le).ixn (by omega) fun a3 ha3 => ⟨_, ha3, Look_map g1 g2 ?_⟩⟩
        rw [g3]
        refine c_val k10 cD hf fun h3 k3 => ⟨(), rfl, Wk_self (hK2 _ _ hm' ⟨by rw [wnat hm' hp.bd], ?_⟩)⟩
        rw [parCons_succ, ← List.append_assoc, runC_append, runC_one, getD_lt hm', getD_lt (by omega)]
        exact k3
      · have : m = ps.length := by have := hp.len; simp only at hge; omega
        subst this
        exact Wk_self (hK1' h10 k10)
    · have : j = b.e.ways.length := by have := wC.len; simp only at hge; omega
      subst this
      rw [List.take_of_length_le (Nat.le_refl _)] at k7
      have hB0 : blockCons p cut wr f b = (cs0 ++ b.e.ways.flatMap (wayCons p cut f)) ++ endCons f b.e := by unfold blockCons; rw [hcs]
      rw [hB0] at hR
      generalize (cs0 ++ b.e.ways.flatMap (wayCons p cut f)) = cs1 at *
      refine ⟨_, by rw [Addr.add_add]; exact (bC.le k7.le).cell rfl, cond_eqi (fun e3 => ?_) (fun n3 => ?_)⟩
      · have e3 : b.e.kind = 3 := e3
        obtain ⟨a0, ha, hlt, hc⟩ := k7.atRet (i := (f : Int)) (by omega) (by simpa using hf)
        have hltf : f < ids.length := by rw [cC.len]; exact hf
        obtain ⟨_, ob, mm, g1, g2, g3⟩ := k7.maps f _ (List.getElem?_eq_getElem hltf)
        refine ⟨rs, by rw [Addr.add_add]; exact k7.box.cell rfl, a0, ha, by omega, hlt, vs, by rw [Addr.add_add]; exact k7.box.cell rfl, ?_⟩
        refine (cC.vals.le mono_map k7.le).ixn hltf fun a hma => ⟨some ids[f], hma, _, by rw [Addr.add_add]; exact (bC.le k7.le).cell rfl, Look_map g1 g2 ?_⟩
        rw [g3]
        refine c_stays ⟨_, rfl, Le.refl _, c_raise_ret k7 (by omega) (by simpa using hf) ha fun h3 k3 => ⟨(), rfl, Wk_self (hR h3 ?_)⟩⟩
        unfold endCons
        rw [if_pos e3, runC_append, runC_one]
        simp only [Int.toNat_natCast] at k3
        exact k3
      · have n3 : b.e.kind ≠ 3 := n3
        refine Wk_self (hR h7 ?_)
        unfold endCons
        rw [if_neg n3, List.append_nil]
        exact k7
end
end Go.Proofs.Ytaefmhephoilmaa
