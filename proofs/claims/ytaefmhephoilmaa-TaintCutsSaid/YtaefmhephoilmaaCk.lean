/- Contracts of package taint: val, of, May, ins, block. -/
import Derived.Test.YtaefmhephoilmaaCj
namespace Go.Proofs.Ytaefmhephoilmaa
open Go Go.VL

section
variable {hB hh : V} {p : ProgD} {r : Nat} {sa sf vs ar rs cs ws : Sl} {ids : List Nat} {L : LabF} {tu : Bool} {cut : CutF} {wr : List Bool} {R : Value → V → Prop}
theorem c_raise_box {h1 : V} {r8 : Nat} {x to : Int} (k : SolW hB h1 p r sa sf vs ar rs cs ws ids L tu) (hr8 : h1 r8 = none) (l : Le h1 hh) (b : Box hh r8 [iV x] 42)
    (hR : ∀ h', SolW hB h' p r sa sf vs ar rs cs ws ids L (if x < to then true else tu) → Box h' r8 [iV (if x < to then to else x)] 42 → R (.tuple ⟨[]⟩) h') :
    ACalls Try.prog 37 [.pointer (some ⟨r, 0, none⟩), .pointer (some ⟨r8, 0, none⟩), iV to] hh R := by
  refine S37_ok _ _ _ _ _ ⟨x, b.cell0, cond_dec (fun hlt => ?_) (fun hge => ?_)⟩
  · refine StL_box (h := h1) b rfl l hr8 fun h2 l2 b2 f2 => ?_
    have hlt : x < to := hlt
    refine (k.view l2).turn fun h3 k3 f3 => ?_
    rw [if_pos hlt, if_pos hlt] at hR
    refine Wk_self (hR h3 k3 ((f3 r8 fun e => ?_).trans b2))
    have := k.box
    unfold Box at this
    rw [← e, hr8] at this; cases this
  · have hge : ¬ x < to := hge
    rw [if_neg hge, if_neg hge] at hR
    exact Wk_self (hR hh (k.view l) b)

theorem c_val {f : Nat} {v to : Int} (k : SolW hB hh p r sa sf vs ar rs cs ws ids L tu) (c : SolC hB p cut wr sa sf vs cs ws ids) (hf : f < p.funcs.length)
    (hR : ∀ h', SolW hB h' p r sa sf vs ar rs cs ws ids (stepC (L, tu) ⟨.val f v, fun _ => cutS cut f v to⟩).1 (stepC (L, tu) ⟨.val f v, fun _ => cutS cut f v to⟩).2 → R (.tuple ⟨[]⟩) h') :
    ACalls Try.prog 36 [.pointer (some ⟨r, 0, none⟩), iV (f : Int), iV v, iV to] hh R := by
  obtain ⟨cl, hcl, lcl, hcut⟩ := c.cuts
  have hf' : f < cl.length := by omega
  obtain ⟨oc, mc, hoc, hmc, hgc⟩ := hcut f cl[f] (List.getElem?_eq_getElem hf')
  refine S36_ok _ _ _ _ _ _ (Cut_i (fun s h1 => s.1 = cutS cut f v to ∧ hh = h1) (fun J hJ => ?_) ?_)
  · refine ⟨cs, by rw [Addr.add_add]; exact k.box.cell rfl, (hcl.le mono_map k.le).ixn hf' fun a ha => ⟨some cl[f], ha, Look_map (k.le _ _ hoc) hmc ?_⟩⟩
    rw [hgc v]
    refine cond_b (fun hy => ?_) (fun hn => Wk_self (hJ _ _ ⟨by unfold cutS; rw [if_neg (by rw [hn]; simp)], rfl⟩))
    exact c_stays ⟨_, rfl, Wk_self (hJ _ _ ⟨by unfold cutS; rw [if_pos hy], rfl⟩)⟩
  · rintro ⟨to', u⟩ _ ⟨e, rfl⟩
    have e : to' = cutS cut f v to := e
    subst e
    have hlt : f < ids.length := by rw [c.len]; exact hf
    have hq : ids[f]? = some ids[f] := List.getElem?_eq_getElem hlt
    obtain ⟨_, o, m, h1, h2, h3⟩ := k.maps f _ hq
    refine ⟨vs, by rw [Addr.add_add]; exact k.box.cell rfl, (c.vals.le mono_map k.le).ixn hlt fun a ha => ⟨some ids[f], ha, Look_map h1 h2 ?_⟩⟩
    rw [h3 v]
    refine New_box fun r8 h5 hr8 l5 b5 => StL_box (h := hh) b5 rfl l5 hr8 fun h6 l6 b6 f6 => ?_
    refine c_raise_box k hr8 l6 b6 fun h7 k7 b7 => ⟨(), rfl, ?_⟩
    obtain ⟨_, o7, m7, g1, g2, g3⟩ := k7.maps f _ hq
    refine ⟨vs, by rw [Addr.add_add]; exact k7.box.cell rfl, (c.vals.le mono_map k7.le).ixn hlt fun a ha => ⟨some ids[f], ha, _, b7.cell0, ?_⟩⟩
    refine MUpd_map (kd := .int .i64) (v := if L (.val f v) < cutS cut f v to then cutS cut f v to else L (.val f v)) g1 g2 fun o' ho' => ?_
    have k8 := k7.putv c.nd hq g3 ho'
    refine Wk_self (hR _ ?_)
    unfold stepC
    by_cases g : L (.val f v) < cutS cut f v to
    · simp only [g, if_true] at k8 ⊢
      exact k8
    · simp only [g, if_false] at k8 ⊢
      have e : putL L (.val f v) (L (.val f v)) = L := by
        funext t
        unfold putL
        split
        · rename_i e; rw [e]
        · rfl
      rw [e] at k8
      exact k8

theorem c_of {f : Nat} {args : List Int} {s : Sl} (k : SolW hB hh p r sa sf vs ar rs cs ws ids L tu) (c : SolC hB p cut wr sa sf vs cs ws ids) (hf : f < p.funcs.length) (ha : isInts hh s args)
    (hR : R (iV (valsOf f args L)) hh) : ACalls Try.prog 51 [.pointer (some ⟨r, 0, none⟩), iV (f : Int), sV s] hh R := by
  have hlt : f < ids.length := by rw [c.len]; exact hf
  have hq : ids[f]? = some ids[f] := List.getElem?_eq_getElem hlt
  obtain ⟨_, o, m, h1, h2, h3⟩ := k.maps f _ hq
  refine S51_ok _ _ _ _ _ (Lp_count args.length (fun j st h' => st = ((args.take j).foldl (fun a v => imax a (L (.val f v))) 0, (j : Int), ()) ∧ hh = h') ⟨rfl, rfl⟩ ?_)
  rintro j _ _ K hj ⟨rfl, rfl⟩ hK
  refine cond_dec (fun hl => ?_) (fun hge => ?_)
  · have hj' : j < args.length := by have := ha.len; simp only at hl; omega
    refine ha.ixn hj' fun a hx => ⟨args[j], hx, vs, by rw [Addr.add_add]; exact k.box.cell rfl, (c.vals.le mono_map k.le).ixn hlt fun a ha' => ⟨some ids[f], ha', Look_map h1 h2 ?_⟩⟩
    rw [h3]
    exact Wk_self (hK _ _ hj' ⟨by rw [foldl_take _ _ _ hj', wnat hj' ha.bd]; rfl, rfl⟩)
  · have : j = args.length := by have := ha.len; simp only at hge; omega
    subst this
    rw [List.take_of_length_le (Nat.le_refl _)] at *
    exact Wk_self hR

theorem c_May {wsl : Sl} {i : InsD} {q : Sl} (hw : isSl repBool 1 hh wsl wr) (hR : R (iV (mayD wr i)) hh) : ACalls Try.prog 52 [sV wsl, .agg ⟨insV i q⟩] hh R := by
  refine S52_ok _ _ _ _ _ _ _ _ _ _ (New_box fun r3 h1 hr3 l1 b3 => ⟨_, b3.cell0, cond_eqi (fun e => Wk_le l1 ?_) (fun n5 => ⟨_, b3.cell0, cond_eqi (fun e3 => ⟨_, b3.cell rfl, cond_dec (fun g0 => ⟨_, b3.cell rfl, cond_dec (fun g1 => ⟨_, b3.cell rfl, ?_⟩) (fun g1 => Wk_le l1 ?_)⟩) (fun g0 => Wk_le l1 ?_)⟩) (fun n3 => Wk_le l1 ?_)⟩)⟩)
  · have e : i.op = 5 := e
    unfold mayD at hR; rw [if_pos e] at hR; exact hR
  · have n5 : i.op ≠ 5 := n5
    have e3 : i.op = 3 := e3
    have g0 : i.arr ≥ 0 := g0
    have hlt := ix_lt hw (show i.arr < (wsl.n : Int) from g1) g0
    refine (hw.le mono_bool l1).ix g0 hlt fun a ha => ⟨_, ha, cond_b (fun hy => Wk_le l1 ?_) (fun hn => Wk_le l1 ?_)⟩
    · unfold mayD at hR
      rw [if_neg n5, if_pos ⟨e3, g0, by rw [List.getElem?_eq_getElem hlt]; exact congrArg some hy⟩] at hR
      exact hR
    · unfold mayD at hR
      rw [if_neg n5, if_neg (fun x => by have := x.2.2; rw [List.getElem?_eq_getElem hlt] at this; have hn : wr[i.arr.toNat] = false := hn; rw [hn] at this; cases this)] at hR
      exact hR
  · have n5 : i.op ≠ 5 := n5
    have g0 : i.arr ≥ 0 := g0
    have := ix_ge hw (show ¬ i.arr < (wsl.n : Int) from g1) g0
    unfold mayD at hR
    rw [if_neg n5, if_neg (fun x => by have h := x.2.2; rw [this] at h; cases h)] at hR
    exact hR
  · have n5 : i.op ≠ 5 := n5
    have g0 : ¬ i.arr ≥ 0 := g0
    unfold mayD at hR
    rw [if_neg n5, if_neg (fun x => by have h := x.2.1; omega)] at hR
    exact hR
  · have n5 : i.op ≠ 5 := n5
    have n3 : i.op ≠ 3 := n3
    unfold mayD at hR
    rw [if_neg n5, if_neg (fun x => n3 x.1)] at hR
    exact hR
end
end Go.Proofs.Ytaefmhephoilmaa
