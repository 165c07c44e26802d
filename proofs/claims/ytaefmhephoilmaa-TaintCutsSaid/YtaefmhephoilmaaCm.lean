/- Contracts of package taint: ins. -/
import Derived.Test.YtaefmhephoilmaaCl
namespace Go.Proofs.Ytaefmhephoilmaa
open Go Go.VL

theorem right_arr {p : ProgD} {i : InsD} (h : rightD p i = true) (ho : i.op = 3 ∨ i.op = 4 ∨ i.op = 5 ∨ i.op = 6) : 0 ≤ i.arr ∧ i.arr.toNat < p.arrays.length := by
  unfold rightD at h
  split at h
  · cases h
  split at h
  · cases h
  split at h
  · cases h
  split at h
  · cases h
  split at h
  · omega
  split at h
  · rw [Bool.and_eq_true_iff] at h
    refine ⟨by simpa using h.1, ?_⟩
    have := h.2
    split at this
    · rename_i a ha; exact (List.getElem?_eq_some_iff.1 ha).1
    · cases this
  split at h
  · rw [Bool.and_eq_true_iff] at h
    refine ⟨by simpa using h.1, ?_⟩
    have := h.2
    split at this
    · rename_i a ha; exact (List.getElem?_eq_some_iff.1 ha).1
    · cases this
  · omega
theorem right_two {p : ProgD} {i : InsD} (h : rightD p i = true) (ho : i.op = 6) : i.args.length = 2 := by
  unfold rightD at h
  split at h
  · cases h
  split at h
  · cases h
  rename_i hn
  have e : (shapeD i.op).1 = 2 := by rw [ho]; rfl
  rw [e] at hn
  apply Classical.byContradiction
  intro x
  exact hn ⟨by omega, by omega⟩
theorem right_call {p : ProgD} {i : InsD} (h : rightD p i = true) (ho : i.op = 7) : 0 ≤ i.fn ∧ i.fn.toNat < p.funcs.length ∧ i.args.length = (FuncD.at p i.fn.toNat).params.length := by
  unfold rightD at h
  split at h
  · cases h
  split at h
  · cases h
  split at h
  · cases h
  split at h
  · cases h
  rw [if_neg (by omega), if_neg (by omega), if_neg (by omega)] at h
  rw [Bool.and_eq_true_iff] at h
  refine ⟨by simpa using h.1, ?_⟩
  have h2 := h.2
  split at h2
  · rename_i f hf
    have hlt := (List.getElem?_eq_some_iff.1 hf).1
    refine ⟨hlt, ?_⟩
    have e : FuncD.at p i.fn.toNat = f := by unfold FuncD.at; rw [List.getD_eq_getElem?_getD, hf]; rfl
    rw [e]
    unfold FuncD.params
    split at h2
    · rename_i b bs hb
      rw [hb]; simpa using h2
    · cases h2
  · cases h2
theorem FuncD.at_eq {p : ProgD} {f : Nat} (h : f < p.funcs.length) : FuncD.at p f = p.funcs[f] := by unfold FuncD.at; rw [List.getD_eq_getElem?_getD, List.getElem?_eq_getElem h]; rfl
theorem getD_lt {α : Type} {l : List α} {i : Nat} {d : α} (h : i < l.length) : l.getD i d = l[i] := by rw [List.getD_eq_getElem?_getD, List.getElem?_eq_getElem h]; rfl
theorem c_Params0 {h0 h : V} {nm : ByteArray} {s : Sl} {bs : List BlockD} {R : Value → V → Prop} (hs : isBlocks h0 s bs) (l0 : Le h0 h) (hR : ∀ s', isInts h0 s' (FuncD.params ⟨nm, bs⟩) → R (sV s') h) : ACalls Try.prog 21 [.agg ⟨[.string nm, sV s]⟩] h R := by
  refine S21_ok _ _ _ _ (New_box fun r h1 hr l b => ?_)
  refine ⟨s, b.cell rfl, cond_eqi (fun h0 => ?_) (fun h0 => ?_)⟩
  · have : bs = [] := List.eq_nil_of_length_eq_zero (by have := hs.len; omega)
    subst this
    exact ⟨h, l, hR ⟨none, 0, 0⟩ (isSl_nil _ _ _)⟩
  · cases bs with
    | nil => exact absurd (by simp [hs.len]) h0
    | cons b0 bs =>
      exact ⟨s, b.cell rfl, hs.ixn (k := 0) (by simp) fun a ⟨p, i, w, h1', h2, h3, hc⟩ => ⟨p, cellq_le (l0.trans l) hc.1, h, l, hR p h1'⟩⟩
theorem parCons_succ {cut : CutF} {g : Nat} {ps : List Int} {src : Nat → LabF → Int} {k : Nat} : parCons cut g ps src (k + 1) = parCons cut g ps src k ++ [⟨.val g (ps.getD k 0), fun L => cutS cut g (ps.getD k 0) (src k L)⟩] := by
  unfold parCons; rw [List.range_succ, List.map_append]; rfl

section
variable {hB hh : V} {p : ProgD} {r : Nat} {sa sf vs ar rs cs ws : Sl} {ids : List Nat} {L : LabF} {tu : Bool} {cut : CutF} {wr : List Bool} {R : Value → V → Prop}
theorem c_ins {f : Nat} {i : InsD} {q : Sl} (k : SolW hB hh p r sa sf vs ar rs cs ws ids L tu) (c : SolC hB p cut wr sa sf vs cs ws ids) (hf : f < p.funcs.length) (hr : rightD p i = true) (hq : isInts hB q i.args)
    (hR : ∀ h', SolW hB h' p r sa sf vs ar rs cs ws ids (runC (insCons p cut wr f i) (L, tu)).1 (runC (insCons p cut wr f i) (L, tu)).2 → R (.tuple ⟨[]⟩) h') :
    ACalls Try.prog 35 [.pointer (some ⟨r, 0, none⟩), iV (f : Int), .agg ⟨insV i q⟩] hh R := by
  refine S35_ok _ _ _ _ _ _ _ _ _ _ _ (New_box fun r5 h1 hr5 l1 b5 => ⟨q, b5.cell rfl, ?_⟩)
  obtain ⟨k1, lC⟩ := k.grow hr5 l1 b5
  have bC : Box (hB.upd r5 (.cells ⟨insV i q⟩ 60)) r5 (insV i q) 60 := upd_self _ _ _
  have cC := c.le lC
  have qC : isInts (hB.upd r5 (.cells ⟨insV i q⟩ 60)) q i.args := hq.le mono_int lC
  have hR : ∀ h', SolW (hB.upd r5 (.cells ⟨insV i q⟩ 60)) h' p r sa sf vs ar rs cs ws ids (runC (insCons p cut wr f i) (L, tu)).1 (runC (insCons p cut wr f i) (L, tu)).2 → R (.tuple ⟨[]⟩) h' := fun h' k' => hR h' (k'.shrink lC)
  generalize hB.upd r5 (.cells ⟨insV i q⟩ 60) = hC at *
  refine c_of k1 cC hf (qC.le mono_int k1.le) ⟨_, rfl, _, b5.cell0, cond_eqi (fun e1 => ?_) (fun n1 => cond_eqi (fun e2 => ?_) (fun n2 => ?_))⟩
  · have e1 : i.op = 1 := e1
    refine ⟨_, b5.cell rfl, c_val k1 cC hf fun h3 k3 => ⟨(), rfl, Wk_self (hR h3 ?_)⟩⟩
    unfold insCons; rw [if_pos e1]; exact k3
  · have n1 : i.op ≠ 1 := n1
    have e2 : i.op = 2 := e2
    refine ⟨_, b5.cell rfl, c_val k1 cC hf fun h3 k3 => ⟨(), rfl, Wk_self (hR h3 ?_)⟩⟩
    unfold insCons; rw [if_neg n1, if_pos e2]; exact k3
  have n1 : i.op ≠ 1 := n1
  have n2 : i.op ≠ 2 := n2
  refine Cut_i (fun s h7 => s.1 = decide (i.op = 3 ∨ i.op = 5) ∧ h1 = h7) (fun J hJ => ?_) ?_
  · refine cond_eqi (fun e => Wk_self (hJ _ _ ⟨?_, rfl⟩)) (fun e => Wk_self (hJ _ _ ⟨?_, rfl⟩))
    · have e : i.op = 3 := e
      show (i.op == 3) = _
      simp [e]
    · have e : ¬ i.op = 3 := e
      show (i.op == 5) = _
      simp [e]; rfl
  · rintro ⟨s, u⟩ _ ⟨es, rfl⟩
    have es : s = decide (i.op = 3 ∨ i.op = 5) := es
    subst es
    refine cond_dec (fun e => ?_) (fun n => cond_eqi (fun e4 => ?_) (fun n4 => cond_eqi (fun e6 => ?_) (fun n6 => cond_eqi (fun e7 => ?_) (fun n7 => ?_))))
    · obtain ⟨h0, hi⟩ := right_arr hr (by omega)
      obtain ⟨a0, ha, hlt, hc⟩ := k1.atArr h0 hi
      refine ⟨_, b5.cell rfl, ar, by rw [Addr.add_add]; exact k1.box.cell rfl, _, b5.cell rfl, a0, ha, h0, hlt, _, hc, ws, k1.box.cell rfl, (i.op, i.dst, q, i.num, i.bin, i.arr, i.fn, ()), b5.cells, ?_⟩
      refine c_May (cC.writes.le mono_bool k1.le) ⟨_, rfl, Le.refl _, c_val k1 cC hf fun h3 k3 => ⟨(), rfl, Wk_self (hR h3 ?_)⟩⟩
      unfold insCons; rw [if_neg n1, if_neg n2, if_pos e]; exact k3
    · have e4 : i.op = 4 := e4
      obtain ⟨h0, hi⟩ := right_arr hr (by omega)
      obtain ⟨a0, ha, hlt, hc⟩ := k1.atArr h0 hi
      refine ⟨ar, by rw [Addr.add_add]; exact k1.box.cell rfl, _, b5.cell rfl, a0, ha, h0, hlt, c_stays ⟨_, rfl, Le.refl _, c_raise_arr k1 h0 hi ha fun h3 k3 => ⟨(), rfl, Wk_self (hR h3 ?_)⟩⟩⟩
      unfold insCons; rw [if_neg n1, if_neg n2, if_neg n, if_pos e4]; exact k3
    · have n4 : i.op ≠ 4 := n4
      have e6 : i.op = 6 := e6
      obtain ⟨h0, hi⟩ := right_arr hr (by omega)
      obtain ⟨a0, ha, hlt, hc⟩ := k1.atArr h0 hi
      have h2 := right_two hr e6
      refine ⟨ar, by rw [Addr.add_add]; exact k1.box.cell rfl, _, b5.cell rfl, a0, ha, h0, hlt, vs, by rw [Addr.add_add]; exact k1.box.cell rfl, ?_⟩
      have hltf : f < ids.length := by rw [cC.len]; exact hf
      obtain ⟨_, ob, m, g1, g2, g3⟩ := k1.maps f _ (List.getElem?_eq_getElem hltf)
      refine (cC.vals.le mono_map k1.le).ixn hltf fun a hma => ⟨some ids[f], hma, q, b5.cell rfl, ?_⟩
      refine (qC.le mono_int k1.le).ix (i := 1) (by omega) (by omega) fun a3 ha3 => ⟨_, ha3, Look_map g1 g2 ?_⟩
      rw [g3]
      refine c_stays ⟨_, rfl, Le.refl _, c_raise_arr k1 h0 hi ha fun h3 k3 => ⟨(), rfl, Wk_self (hR h3 ?_)⟩⟩
      unfold insCons; rw [if_neg n1, if_neg n2, if_neg n, if_neg n4, if_pos e6]
      rw [show i.args[Int.toNat 1]'(by omega) = i.args.getD 1 0 from (getD_lt _).symm] at k3
      exact k3
    · have n4 : i.op ≠ 4 := n4
      have n6 : i.op ≠ 6 := n6
      have e7 : i.op = 7 := e7
      obtain ⟨h0, hi, hargs⟩ := right_call hr e7
      have heq : insCons p cut wr f i = parCons cut i.fn.toNat (FuncD.at p i.fn.toNat).params (fun j L => staysD (L (.val f (i.args.getD j 0)))) (FuncD.at p i.fn.toNat).params.length ++ [⟨.val f i.dst, fun L => cutS cut f i.dst (L (.ret i.fn.toNat))⟩] := by
        unfold insCons; rw [if_neg n1, if_neg n2, if_neg n, if_neg n4, if_neg n6, if_pos e7]
      rw [heq] at hR
      have hfn := FuncD.at_eq hi
      generalize FuncD.at p i.fn.toNat = g at *
      refine ⟨sf, by rw [Addr.add_add]; exact k1.box.cell rfl, _, b5.cell rfl, cC.funcs.ix h0 hi fun a ⟨sb, hsb, hc⟩ => ⟨(_, sb, ()), cellsAt_le k1.le hc, c_Params0 hsb k1.le fun s' hs' => ⟨_, rfl, ?_⟩⟩⟩
      have hs' : isInts hC s' g.params := by rw [hfn]; exact hs'
      have hltf : f < ids.length := by rw [cC.len]; exact hf
      refine Lp_count g.params.length (fun j st hh => st = ((j : Int), ()) ∧ SolW hC hh p r sa sf vs ar rs cs ws ids (runC (parCons cut i.fn.toNat g.params (fun j L => staysD (L (.val f (i.args.getD j 0)))) j) (L, tu)).1 (runC (parCons cut i.fn.toNat g.params (fun j L => staysD (L (.val f (i.args.getD j 0)))) j) (L, tu)).2) ⟨rfl, k1⟩ ?_
      rintro j _ h18 K hj ⟨rfl, k2⟩ hK
      have hfi : ((i.fn.toNat : Nat) : Int) = i.fn := by omega
      refine cond_dec (fun hl => ?_) (fun hge => ?_)
      · have hj' : j < g.params.length := by have := hs'.len; simp only at hl; omega
        obtain ⟨_, ob, m, g1, g2, g3⟩ := k2.maps f _ (List.getElem?_eq_getElem hltf)
        refine (hs'.le mono_int k2.le).ixn hj' fun a ha => ⟨_, ha, _, (bC.le k2.le).cell rfl, vs, by rw [Addr.add_add]; exact k2.box.cell rfl, ?_⟩
        refine (cC.vals.le mono_map k2.le).ixn hltf fun a hma => ⟨some ids[f], hma, q, (bC.le k2.le).cell rfl, (qC.le mono_int k2.le).ixn (by omega) fun a3 ha3 => ⟨_, ha3, Look_map g1 g2 ?_⟩⟩
        rw [g3, ← hfi]
        refine c_stays ⟨_, rfl, Le.refl _, c_val k2 cC hi fun h3 k3 => ⟨(), rfl, Wk_self (hK _ _ hj' ⟨by rw [wnat hj' hs'.bd], ?_⟩)⟩⟩
        rw [parCons_succ, runC_append, runC_one, getD_lt hj', getD_lt (by omega)]
        exact k3
      · have : j = g.params.length := by have := hs'.len; simp only at hge; omega
        subst this
        obtain ⟨a0, ha, hlt, hc⟩ := k2.atRet h0 hi
        refine ⟨_, (bC.le k2.le).cell rfl, rs, by rw [Addr.add_add]; exact k2.box.cell rfl, _, (bC.le k2.le).cell rfl, a0, ha, h0, hlt, _, hc, ?_⟩
        refine c_val k2 cC hf fun h3 k3 => ⟨(), rfl, Wk_self (hR h3 ?_)⟩
        rw [runC_append, runC_one]
        exact k3
    · have n4 : i.op ≠ 4 := n4
      have n6 : i.op ≠ 6 := n6
      have n7 : i.op ≠ 7 := n7
      refine Wk_self (hR h1 ?_)
      unfold insCons; rw [if_neg n1, if_neg n2, if_neg n, if_neg n4, if_neg n6, if_neg n7]; exact k1
end
end Go.Proofs.Ytaefmhephoilmaa
