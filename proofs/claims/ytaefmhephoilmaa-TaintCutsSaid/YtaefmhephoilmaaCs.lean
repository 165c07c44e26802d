/- Contracts of package taint: Of, last part: round after round. -/
import Derived.Test.YtaefmhephoilmaaCr
namespace Go.Proofs.Ytaefmhephoilmaa
open Go Go.VL

section
variable {hC hh : V} {p : ProgD} {r r2 : Nat} {sa sf vs ar rs cs ws : Sl} {ids : List Nat} {L : LabF} {tu : Bool} {cut : CutF} {wr : List Bool}
/- a slice of one's own that stays -/
theorem SolW.growS {h44 : V} {x : Sl} {T : TypeId} {xs : List Value} (k : SolW hC hh p r sa sf vs ar rs cs ws ids L tu) (o : OwnS hh h44 x T 1 xs) (l : Le hh h44) : ∃ hD, Le hC hD ∧ SolW hD h44 p r sa sf vs ar rs cs ws ids L tu ∧ OwnS hC hD x T 1 xs := by
  obtain ⟨h1, h2, h3, h4⟩ := o
  rcases h4 with h4 | ⟨b, off, arr, ha, hb, hr, hz, ht⟩
  · exact ⟨hC, Le.refl _, k.view l, h1, h2, h3, .inl h4⟩
  · obtain ⟨g1, g2⟩ := k.grow hb l hr
    exact ⟨_, g2, g1, h1, h2, h3, .inr ⟨b, off, arr, ha, k.le.nil hb, upd_self _ _ _, hz, ht⟩⟩
noncomputable def blkF (p : ProgD) (cut : CutF) (wr : List Bool) (f : Nat) (n : Nat) : List Con := if rchB (FuncD.at p f).blocks n = true then (match (FuncD.at p f).blocks[n]? with | some b => blockCons p cut wr f b | none => []) else []
theorem of_main (k0 : SolW hC hh p r sa sf vs ar rs cs ws ids (L0 p) true) (c : SolC hC p cut wr sa sf vs cs ws ids) (ok : CheckOk p) (few : ∀ f ∈ p.funcs, f.blocks.length ≤ 1048576) (b2 : Box hC r2 [sV sa, sV sf, iV p.main] 25) {X : V → Prop}
    (hX : ∀ hh L, SolW hC hh p r sa sf vs ar rs cs ws ids L false → LeastL p cut wr L → X hh) :
  Lp (σ := (Unit)) (fun K_3 _ h39 =>
  Ld h39 (Addr.add (⟨r, 0, none⟩) 8) .bool fun (x113 : Bool) =>
  cond x113
  (StL h39 (Addr.add (⟨r, 0, none⟩) 8) 0 [(.bool false)] fun h40 =>
  Ld h40 (Addr.add (⟨r2, 0, none⟩) 1) .sl fun (x118 : Sl) =>
  Lp (σ := (Int × Unit)) (fun K_4 s_6 h41 =>
  cond (decide (s_6.1 < (((x118.n : Nat) : Int))))
  (Ix x118 s_6.1 2 fun a123 =>
  LdA h41 a123 [.str, .sl] fun (x124 : ((ByteArray) × (Sl) × Unit)) =>
  New h41 (.cells #[(.string (⟨#[]⟩)), (.slice none 0 0)] 46) fun r15 h42 =>
  StL h42 (⟨r15, 0, none⟩) 0 [(.string x124.1), (.slice x124.2.1.a x124.2.1.n x124.2.1.c)] fun h43 =>
  LdA h43 (⟨r15, 0, none⟩) [.str, .sl] fun (x125 : ((ByteArray) × (Sl) × Unit)) =>
  CallK Try.prog 19 [(.agg ⟨[(.string x125.1), (.slice x125.2.1.a x125.2.1.n x125.2.1.c)]⟩)] h43 (.un (.one .sl)) fun (x126 : Sl) h44 =>
  Lp (σ := (Int × Unit)) (fun K_5 s_7 h45 =>
  cond (decide (s_7.1 < (((x126.n : Nat) : Int))))
  (Ix x126 s_7.1 1 fun a131 =>
  Ld h45 a131 .bool fun (x132 : Bool) =>
  cond x132
  (Ld h45 (Addr.add (⟨r15, 0, none⟩) 1) .sl fun (x137 : Sl) =>
  Ix x137 s_7.1 6 fun a139 =>
  LdA h45 a139 [.sl, .sl, (.int .i64), (.int .i64), .sl, (.int .i64)] fun (x140 : ((Sl) × (Sl) × (Int) × (Int) × (Sl) × (Int) × Unit)) =>
  CallK Try.prog 20 [(.pointer (some (⟨r, 0, none⟩))), (.int .i64 s_6.1), (.agg ⟨[(.slice x140.1.a x140.1.n x140.1.c), (.slice x140.2.1.a x140.2.1.n x140.2.1.c), (.int .i64 x140.2.2.1), (.int .i64 x140.2.2.2.1), (.slice x140.2.2.2.2.1.a x140.2.2.2.2.1.n x140.2.2.2.2.1.c), (.int .i64 x140.2.2.2.2.2.1)]⟩)] h45 (.tup []) fun (_ : (Unit)) h46 =>
  Wk h46 fun h47 => K_5 (IntKind.wrap .i64 (s_7.1 + ((1 : Int))), ()) h47)
  (Wk h45 fun h48 => K_5 (IntKind.wrap .i64 (s_7.1 + ((1 : Int))), ()) h48))
  (Wk h45 fun h49 => K_4 (IntKind.wrap .i64 (s_6.1 + ((1 : Int))), ()) h49))
  ((0 : Int), ()) h44)
  (Wk h41 fun h50 => K_3 (()) h50))
  ((0 : Int), ()) h40)
  (X h39)) () hh := by
  have ok0 : ∀ c ∈ progCons p cut wr, c.ok := progCons_ok
  have l02 : ∀ t, L0 p t ≤ 2 := by
    intro t
    unfold L0
    repeat' split
    all_goals omega
  refine Lp_inv (fun n _ hh => ∃ L tu, SolW hC hh p r sa sf vs ar rs cs ws ids L tu ∧ LeL (L0 p) L ∧ (∀ t, L t ≤ 2) ∧ (∀ M, LeL (L0 p) M → Closed (progCons p cut wr) M → LeL L M) ∧ (tu = true → muC (progCons p cut wr) L + 1 ≤ n) ∧ (tu = false → Closed (progCons p cut wr) L))
    ⟨_, _, k0, LeL.refl _, l02, fun M h _ => h, fun _ => Nat.le_refl _, fun e => by cases e⟩ ?_
  rintro n _ h39 K ⟨L, tu, k, lge, l2, lleast, hmu, hcl⟩ hK
  refine ⟨tu, k.box.cell rfl, cond_b (fun ht => ?_) (fun ht => ?_)⟩
  · have hmu := hmu ht
    refine k.turn (b := false) fun h40 k4 _ => ⟨sf, (b2.le k4.le).cell rfl, ?_⟩
    refine Lp_count p.funcs.length (fun f st hh => st = ((f : Int), ()) ∧ SolW hC hh p r sa sf vs ar rs cs ws ids (runC ((List.range f).flatMap (funcCons p cut wr)) (L, false)).1 (runC ((List.range f).flatMap (funcCons p cut wr)) (L, false)).2) ⟨rfl, k4⟩ ?_
    rintro f _ h41 K4 hf ⟨rfl, k5⟩ hK4
    refine cond_dec (fun hl => ?_) (fun hge => ?_)
    · have hf' : f < p.funcs.length := by have := c.funcs.len; simp only at hl; omega
      have hfm : p.funcs[f] ∈ p.funcs := List.getElem_mem hf'
      rw [List.range_succ, List.flatMap_append, show [f].flatMap (funcCons p cut wr) = funcCons p cut wr f by simp] at hK4
      generalize (List.range f).flatMap (funcCons p cut wr) = cs0 at *
      refine elem_func c.funcs k5.le hf' rfl rfl fun sb hsb r15 h43 l43 l43' hr15 b15 => ⟨(p.funcs[f].name, sb, ()), b15.cells, ?_⟩
      obtain ⟨k6, lD⟩ := k5.grow hr15 l43' b15
      have bD : Box (hC.upd r15 (.cells ⟨funcV p.funcs[f] sb⟩ 46)) r15 (funcV p.funcs[f] sb) 46 := upd_self _ _ _
      have cD := c.le lD
      have hsD := hsb.le mono_block lD
      generalize hC.upd r15 (.cells ⟨funcV p.funcs[f] sb⟩ 46) = hD at *
      refine c_Reach (hsD.le mono_block k6.le) (few _ hfm) fun x126 h44 out l44 o44 outl hout => ⟨_, rfl, ?_⟩
      obtain ⟨hE, lE, k7, oE⟩ := k6.growS o44 l44
      have cE := cD.le lE
      have bE := bD.le lE
      have hsE := hsD.le mono_block lE
      have xE := oE.bools
      have lCE := lD.trans lE
      have fat := FuncD.at_eq hf'
      refine Lp_count p.funcs[f].blocks.length (fun n st hh => st = ((n : Int), ()) ∧ SolW hE hh p r sa sf vs ar rs cs ws ids (runC (cs0 ++ (List.range n).flatMap (blkF p cut wr f)) (L, false)).1 (runC (cs0 ++ (List.range n).flatMap (blkF p cut wr f)) (L, false)).2) ⟨rfl, by simpa using k7⟩ ?_
      rintro m _ h45 K5 hm ⟨rfl, k8⟩ hK5
      refine cond_dec (fun hl => ?_) (fun hge => ?_)
      · have hm' : m < p.funcs[f].blocks.length := by have := xE.len; simp only at hl; omega
        have hmo : m < out.length := by omega
        rw [List.range_succ, List.flatMap_append, show [m].flatMap (blkF p cut wr f) = blkF p cut wr f m by simp, ← List.append_assoc] at hK5
        generalize cs0 ++ (List.range m).flatMap (blkF p cut wr f) = cs1 at *
        refine (xE.le mono_bool k8.le).ixn hmo fun a ha => ⟨_, ha, cond_b (fun hy => ⟨sb, (bE.le k8.le).cell rfl, ?_⟩) (fun hn => ?_)⟩
        · have hr : Rch p.funcs[f].blocks m := (hout m).1 (by rw [List.getElem?_eq_getElem hmo]; exact congrArg some hy)
          have heq : blkF p cut wr f m = blockCons p cut wr f p.funcs[f].blocks[m] := by
            unfold blkF
            rw [fat, if_pos (rchB_iff.2 hr), List.getElem?_eq_getElem hm']
          rw [heq] at hK5
          refine hsE.ixn hm' fun a ⟨q, i, w, hq, hi, hw, hc⟩ => ⟨(q, i, _, _, w, _, ()), cellsAt_le k8.le hc, ?_⟩
          refine c_block k8 cE hf' ((ok.funcs _ hfm).2.2.2.1 _ (List.getElem_mem hm')) hi hw fun h46 k9 => ⟨(), rfl, Wk_self (hK5 _ _ hm' ⟨by rw [wnat hm' hsE.bd], ?_⟩)⟩
          rw [runC_append]
          exact k9
        · have hr : ¬ Rch p.funcs[f].blocks m := fun h => by
            have := (hout m).2 h
            rw [List.getElem?_eq_getElem hmo] at this
            have hn : out[m] = false := hn
            rw [hn] at this; cases this
          have heq : blkF p cut wr f m = [] := by
            unfold blkF
            rw [fat, if_neg (fun e => hr (rchB_iff.1 e))]
          rw [heq, List.append_nil] at hK5
          exact Wk_self (hK5 _ _ hm' ⟨by rw [wnat hm' hsE.bd], k8⟩)
      · have : m = p.funcs[f].blocks.length := by have := xE.len; simp only at hge; omega
        subst this
        refine Wk_self (hK4 _ _ hf' ⟨by rw [wnat hf' c.funcs.bd], ?_⟩)
        have heq : (List.range p.funcs[f].blocks.length).flatMap (blkF p cut wr f) = funcCons p cut wr f := by
          rw [← fat]
          rfl
        rw [heq] at k8
        exact k8.shrink lCE
    · have : f = p.funcs.length := by have := c.funcs.len; simp only at hge; omega
      subst this
      have ep : (List.range p.funcs.length).flatMap (funcCons p cut wr) = progCons p cut wr := rfl
      rw [ep] at k5
      have hge' := runC_ge (progCons p cut wr) (L, false)
      cases ht2 : (runC (progCons p cut wr) (L, false)).2 with
      | true =>
        have hlt := runC_mu (all := progCons p cut wr) (progCons p cut wr) (L, false) (fun _ h => h) (fun c h => (ok0 c h).2) l2 rfl ht2
        refine Wk_self (hK (muC (progCons p cut wr) (runC (progCons p cut wr) (L, false)).1 + 1) _ _ (by have : muC (progCons p cut wr) (runC (progCons p cut wr) (L, false)).1 < muC (progCons p cut wr) L := hlt; omega) ⟨_, _, k5, lge.trans hge', runC_bd _ _ (fun c h => (ok0 c h).2) l2, fun M h1 h2 => runC_le _ _ (fun c h => (ok0 c h).1) h2 (lleast M h1 h2), fun _ => Nat.le_refl _, fun e => by rw [ht2] at e; cases e⟩)
      | false =>
        obtain ⟨_, e2, e3⟩ := runC_false _ _ ht2
        refine Wk_self (hK 0 _ _ (by omega) ⟨_, _, k5, lge.trans hge', runC_bd _ _ (fun c h => (ok0 c h).2) l2, fun M h1 h2 => runC_le _ _ (fun c h => (ok0 c h).1) h2 (lleast M h1 h2), fun e => (by rw [ht2] at e; cases e), fun _ => by rw [e2]; exact e3⟩)
  · have ht : tu = false := ht
    subst ht
    exact hX h39 L k ⟨lge, l2, hcl rfl, lleast⟩
end
end Go.Proofs.Ytaefmhephoilmaa
