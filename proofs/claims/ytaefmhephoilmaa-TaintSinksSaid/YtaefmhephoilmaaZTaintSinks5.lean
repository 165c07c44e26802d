/- TaintSinks: the row. -/
import Derived.Test.YtaefmhephoilmaaZTaintSinks4
import Derived.Test.YtaefmhephoilmaaRows
import Derived.WalkKit
import Derived.ProofKit
import Derived.OpenShut
import Derived.ChangeOld
import Derived.Below
namespace Go.Proofs.Ytaefmhephoilmaa
open Go Go.VL

theorem valsL_at {p : ProgD} {L : LabF} {k : Nat} (h : k < (valsL p L).length) : (valsL p L)[k]'h = fun v => L (.val k v) := by simp [valsL]
structure WantT (hB hh : V) (s : Sl) (l : List SinkD) : Prop where
  le : Le hB hh
  own : OwnS hB hh s 69 5 (l.flatMap encS)
theorem WantT.grow {hB hB' hh h' : V} {s : Sl} {l : List SinkD} (w : WantT hB hh s l) (hl : Le hh h') (hl' : Le hB' h') (hn : ∀ b, hB' b ≠ none → hB b ≠ none ∨ hh b = none) : WantT hB' h' s l := by
  have out : ∀ b o, hB b = none → hh b = some o → hB' b = none := fun b o e1 e2 => by
    cases hx : hB' b with
    | none => rfl
    | some x =>
      rcases hn b (by rw [hx]; simp) with e | e
      · exact absurd e1 e
      · rw [e2] at e; cases e
  exact ⟨hl', OwnS.rebaseN (w.own.le hl) fun a ha => let ⟨e1, arr, e2⟩ := w.own.blk ha; out _ _ e1 e2⟩
theorem WantT.up {hB hh h' : V} {s : Sl} {l : List SinkD} (w : WantT hB hh s l) (hl : Le hh h') : WantT hB h' s l := w.grow hl (w.le.trans hl) fun _ h => .inl h
theorem WantT.less {hB hB' hh : V} {s : Sl} {l : List SinkD} (w : WantT hB hh s l) (hl : Le hB' hB) : WantT hB' hh s l := w.grow (Le.refl _) (hl.trans w.le) fun b h => .inl (by
    cases hx : hB' b with
    | none => exact absurd hx h
    | some x => rw [hl _ _ hx]; simp)
theorem WantT.box1 {hB hh h' : V} {r1 : Nat} {o1 : Obj} {s : Sl} {l : List SinkD} (w : WantT hB hh s l) (hl : Le hh h') (n1 : hh r1 = none) (b1 : h' r1 = some o1) :
    ∃ hB', Le hB hB' ∧ WantT hB' h' s l ∧ hB' r1 = some o1 := by
  refine ⟨hB.upd r1 o1, fun b o hb => ?_, w.grow hl (fun b o hb => ?_) (fun b hb => ?_), upd_self _ _ _⟩
  · rw [upd_ne (fun e => by rw [e] at hb; have := w.le _ _ hb; rw [n1] at this; cases this)]; exact hb
  · by_cases e1 : b = r1
    · subst e1; rw [upd_self] at hb; cases hb; exact b1
    · rw [upd_ne e1] at hb; exact hl _ _ (w.le _ _ hb)
  · by_cases e1 : b = r1
    · subst e1; exact .inr n1
    · rw [upd_ne e1] at hb; exact .inl hb
theorem WantT.ints {hB h h' : V} {s s' : Sl} {l : List SinkD} {vs : List Int} (w : WantT hB h s l) (hl : Le h h') (hv : isInts hB s' vs ∨ OwnS h h' s' 3 1 (vs.map (Value.int .i64))) :
    ∃ hB', Le hB hB' ∧ WantT hB' h' s l ∧ isInts hB' s' vs := by
  rcases hv with hv | hv
  · exact ⟨hB, Le.refl _, w.up hl, hv⟩
  · have hv' := hv
    obtain ⟨e1, e2, e3, e4⟩ := hv
    rcases e4 with ⟨ha, hc⟩ | ⟨r, off, arr, ha, hr0, hr, _⟩
    · have : vs = [] := List.eq_nil_of_length_eq_zero (by simp at e1; omega)
      subst this
      refine ⟨hB, Le.refl _, w.up hl, by simp at e1; simp; omega, e2, by omega, fun k hk => by simp at hk⟩
    · obtain ⟨hB', k1, k2, k3⟩ := w.box1 hl hr0 hr
      refine ⟨hB', k1, k2, OwnS.ints (h0 := h) (T := 3) (hv'.frame fun a ob ha' hob => ?_)⟩
      rw [ha] at ha'; cases ha'
      rw [hr] at hob; cases hob; exact k3
/- one sink more, if there is one -/
theorem WantT.app {hB hh : V} {s : Sl} {l : List SinkD} {f : Nat} {n pos v : Int} {L : LabF} {K : Sl → V → Prop} (w : WantT hB hh s l) (hb : (l.length + 1) * 40 ≤ 140737488355328) (hne : L (.val f v) ≠ 0)
    (hK : ∀ s' h', WantT hB h' s' (l ++ sinkV L f n pos v) → K s' h') :
    New hh (.cells ⟨[iV f, iV n, iV pos, iV v, iV (L (.val f v))]⟩ 69) fun r67 h15 => App h15 s ⟨some ⟨r67, 0, none⟩, 1, 1⟩ 69 5 40 [iV 0, iV 0, iV 0, iV 0, iV 0] fun s68 h16 => Wk h16 fun h17 => K s68 h17 := by
  refine New_box fun r29 h1 hr29 l1 b29 => ?_
  refine App_enc (enc := encS) (x := ⟨f, n, pos, v, L (.val f v)⟩) encS_len (by omega) (w.le.trans l1) (w.own.le l1) b29 rfl rfl (by omega) hb fun s' h2 l2 o2 n2 f2 d2 => Wk_self (hK s' h2 ⟨l2, ?_⟩)
  have e : sinkV L f n pos v = [⟨f, n, pos, v, L (.val f v)⟩] := by unfold sinkV; rw [if_neg hne]
  rw [e]; exact o2

set_option maxRecDepth 100000 in
theorem c_Sinks {h : V} {p : ProgD} {L : LabF} {sa sf vs ar rs cs : Sl} {R : Value → V → Prop} (hf : isFuncs h sf p.funcs) (hv : isVals h vs (valsL p L)) (few : FewOk p)
    (hR : ∀ s' h', Le h h' → isSl (repEnc encS) 5 h' s' (sinkP L p p.funcs.length) → R (sV s') h') : ACalls Try.prog 17 [.agg ⟨[sV sa, sV sf, iV p.main]⟩, .agg ⟨[sV vs, sV ar, sV rs, sV cs]⟩] h R := by
  refine S17_ok _ _ _ _ _ _ _ _ _ (New_box fun r2 h1 hr2 l1 b2 => New_box fun r3 h2 hr3 l2 b3 => ⟨sf, (b2.le l2).cell rfl, ?_⟩)
  have l02 := l1.trans l2
  have hf2 := hf.le mono_func l02
  have hv2 := hv.le mono_vals l02
  have nv : vs.n = p.funcs.length := by have := hv.len; simpa [valsL] using this
  have total : ∀ {k}, k ≤ p.funcs.length → (sinkP L p k).length ≤ 120150 := fun {k} hk => sinkP_len L few hk
  refine Lp_count p.funcs.length (fun k st hh => st.2 = ((k : Int), ()) ∧ WantT h2 hh st.1 (sinkP L p k)) ⟨rfl, Le.refl _, OwnS_nil _ _ _ _⟩ ?_
  rintro k ⟨s, kk, u⟩ h3 K hk ⟨hk2, w3⟩ hK
  obtain ⟨rfl, -⟩ := hk2
  refine cond_dec (fun hlt => ?_) (fun hge => ?_)
  · have hk' : k < p.funcs.length := by have := hf.len; simp only at hlt; omega
    have few' := few.all _ (List.getElem_mem hk')
    refine elem_func hf2 w3.le hk' rfl rfl fun sb hsb r7 h5 l5 l5' hr7 b7 => ?_
    refine ⟨vs, (b3.le l5).cell rfl, cond_dec (fun g => ?_) (fun _ => ?_)⟩
    · have g : (k : Int) ≥ (vs.n : Int) := g
      omega
    refine ⟨sb, b7.cell rfl, ?_⟩
    obtain ⟨hB1, lB1, w5, b7B⟩ := w3.box1 l5' hr7 b7
    have b7B : Box hB1 r7 _ 46 := b7B
    have hsb1 := hsb.le mono_block lB1
    have total1 := total (k := k) (by omega)
    refine Lp_count p.funcs[k].blocks.length (fun n st hh => st.2 = ((n : Int), ()) ∧ WantT hB1 hh st.1 (sinkP L p k ++ sinkF L k p.funcs[k].blocks n)) ⟨rfl, by simpa [sinkF, allD_zero] using w5⟩ ?_
    rintro n ⟨s, nn, u⟩ h7 K1 hn ⟨hn2, w7⟩ hK1
    obtain ⟨rfl, -⟩ := hn2
    refine cond_dec (fun hlt => ?_) (fun hge => ?_)
    · have hn' : n < p.funcs[k].blocks.length := by have := hsb.len; simp only at hlt; omega
      have few2 := few'.all _ (List.getElem_mem hn')
      have total2 := sinkF_len L k few' hn
      refine elem_block hsb1 w7.le hn' rfl rfl fun pp ii ww hpp hii hww r9 h9 l9 l9' hr9 b9 => ?_
      obtain ⟨hB2, lB2, w9, b9B⟩ := w7.box1 l9' hr9 b9
      have b9B : Box hB2 r9 _ 55 := b9B
      have hii2 := hii.le mono_ins lB2
      have l22 := lB1.trans lB2
      have b3B := b3.le l22
      have hv3 := hv2.le mono_vals l22
      refine ⟨ii, b9.cell rfl, ?_⟩
      have vsAt : ∀ {hh : V} {v : Int} {K : Int → Bool → Prop}, Le hB2 hh → (∀ b, K (L (.val k v)) b) → Ix vs (k : Int) 1 fun a => Ld hh a .mp fun q => Look hh q (.int .i64) (.int .i64 v) (.one (.int .i64)) 0 K := fun {hh v K} l hK => by
        have hkv : k < (valsL p L).length := by simpa [valsL] using hk'
        refine (hv3.le mono_vals l).ixn hkv fun a ⟨q, o, m, h1, h2, h3, h4⟩ => ⟨some q, h1, Look_map h2 h3 ?_⟩
        rw [h4, valsL_at]
        exact hK _
      refine Lp_count p.funcs[k].blocks[n].ins.length (fun j st hh => st.2 = ((j : Int), ()) ∧ WantT hB2 hh st.1 ((sinkP L p k ++ sinkF L k p.funcs[k].blocks n) ++ sinkIs L k n p.funcs[k].blocks[n] j)) ⟨rfl, by simpa [sinkIs, allD_zero] using w9⟩ ?_
      rintro j ⟨s, jj, u⟩ h10 K2 hj ⟨hj2, w10⟩ hK2
      obtain ⟨rfl, -⟩ := hj2
      have total3 := sinkIs_len L k n few2 hj
      refine cond_dec (fun hlt => ?_) (fun hge => ?_)
      · have hj' : j < p.funcs[k].blocks[n].ins.length := by have := hii.len; simp only at hlt; omega
        have few3 := few2.args _ (List.getElem_mem hj')
        refine elem_ins hii2 w10.le hj' rfl rfl fun q hq r11 h12 l12 l12' hr11 b11 => ?_
        obtain ⟨hB3, lB3, w12, b11B⟩ := w10.box1 l12' hr11 b11
        refine ⟨(_, _, q, _, _, _, _, ()), b11.cells, c_KnownI w12.le (hq.le mono_int lB3) (by omega) fun s45 h13 l13 hs45 => ⟨s45, rfl, ?_⟩⟩
        obtain ⟨hB4, lB4, w13, i45⟩ := w12.ints l13 hs45
        have total4 := knownD_len p.funcs[k].blocks[n].ins[j]
        refine Lp_count (knownD p.funcs[k].blocks[n].ins[j]).length (fun x st hh => st.2 = ((x : Int), ()) ∧ WantT hB4 hh st.1 (((sinkP L p k ++ sinkF L k p.funcs[k].blocks n) ++ sinkIs L k n p.funcs[k].blocks[n] j) ++ ((knownD p.funcs[k].blocks[n].ins[j]).take x).flatMap (sinkV L k n j))) ⟨rfl, by simpa using w13⟩ ?_
        rintro x ⟨s, xx, u⟩ h14 K3 hx ⟨hx2, w14⟩ hK3
        obtain ⟨rfl, -⟩ := hx2
        refine cond_dec (fun hlt => ?_) (fun hge => ?_)
        · have hx' : x < (knownD p.funcs[k].blocks[n].ins[j]).length := by have := i45.len; simp only at hlt; omega
          refine (i45.le mono_int w14.le).ixn hx' fun a ha => ⟨_, ha, ?_⟩
          have lB4' := lB3.trans lB4
          refine ⟨vs, ((b3B.le lB4').le w14.le).cell rfl, vsAt (lB4'.trans w14.le) fun _ => ?_⟩
          have e : ((knownD p.funcs[k].blocks[n].ins[j]).take (x + 1)).flatMap (sinkV L k n j) = ((knownD p.funcs[k].blocks[n].ins[j]).take x).flatMap (sinkV L k n j) ++ sinkV L k n j (knownD p.funcs[k].blocks[n].ins[j])[x] := by
            rw [List.take_succ_eq_append_getElem hx', List.flatMap_append, List.flatMap_singleton]
          have total5 := flat_le ((knownD p.funcs[k].blocks[n].ins[j]).take x) (sinkV_len L k n j)
          rw [List.length_take] at total5
          refine cond_nei (fun g => w14.app ?_ g fun s' h' w' => hK3 _ _ hx' ⟨by rw [wnat hx' i45.bd], by rw [e, ← List.append_assoc]; exact w'⟩) (fun g => Wk_self (hK3 _ _ hx' ⟨by rw [wnat hx' i45.bd], ?_⟩))
          · simp only [List.length_append]; omega
          · have g : L (.val k (knownD p.funcs[k].blocks[n].ins[j])[x]) = 0 := g
            have e0 : sinkV L k n j (knownD p.funcs[k].blocks[n].ins[j])[x] = [] := by unfold sinkV; rw [if_pos g]
            rw [e, e0, List.append_nil]; exact w14
        · have : x = (knownD p.funcs[k].blocks[n].ins[j]).length := by have := i45.len; simp only at hge; omega
          subst this
          rw [List.take_of_length_le (Nat.le_refl _)] at w14
          refine Wk_self (hK2 _ _ hj' ⟨by rw [wnat hj' hii.bd], ?_⟩)
          have e : sinkIs L k n p.funcs[k].blocks[n] (j + 1) = sinkIs L k n p.funcs[k].blocks[n] j ++ sinkI L k n j p.funcs[k].blocks[n].ins[j] := allD_succ hj'
          rw [e, ← List.append_assoc]
          exact w14.less (lB3.trans lB4)
      · have : j = p.funcs[k].blocks[n].ins.length := by have := hii.len; simp only at hge; omega
        subst this
        have b9h := b9B.le w10.le
        have e : sinkF L k p.funcs[k].blocks (n + 1) = sinkF L k p.funcs[k].blocks n ++ sinkB L k n p.funcs[k].blocks[n] := allD_succ hn'
        have b3h := b3B.le w10.le
        refine Cut_i (fun c hh => h10 = hh ∧ c.1 = decide (p.funcs[k].blocks[n].e.kind = 2 ∧ L (.val k p.funcs[k].blocks[n].e.val) ≠ 0)) (fun J hJ => ?_) ?_
        · refine ⟨_, by rw [Addr.add_add]; exact b9h.cell rfl, cond_eqi (fun g => ⟨vs, b3h.cell rfl, ?_⟩) (fun g => Wk_self (hJ _ _ ⟨rfl, ?_⟩))⟩
          · have hkv : k < (valsL p L).length := by simpa [valsL] using hk'
            refine (hv3.le mono_vals w10.le).ixn hkv fun a ⟨q, o, m, h1, h2, h3, h4⟩ => ⟨some q, h1, _, by rw [Addr.add_add]; exact b9h.cell rfl, Look_map h2 h3 (Wk_self (hJ _ _ ⟨rfl, ?_⟩))⟩
            rw [h4, valsL_at]
            have g : p.funcs[k].blocks[n].e.kind = 2 := g
            by_cases z : L (.val k p.funcs[k].blocks[n].e.val) = 0
            · simp [g, z]
            · simp [g, z]
          · have g : ¬ p.funcs[k].blocks[n].e.kind = 2 := g
            simp [g]
        · rintro ⟨c, u⟩ _ ⟨rfl, hc⟩
          have hc : c = _ := hc
          subst hc
          refine cond_dec (fun g => ?_) (fun g => ?_)
          · refine ⟨ii, b9h.cell rfl, _, by rw [Addr.add_add]; exact b9h.cell rfl, vs, b3h.cell rfl, ?_⟩
            have hkv : k < (valsL p L).length := by simpa [valsL] using hk'
            refine (hv3.le mono_vals w10.le).ixn hkv fun a ⟨q, o, m, h1, h2, h3, h4⟩ => ⟨some q, h1, _, by rw [Addr.add_add]; exact b9h.cell rfl, Look_map h2 h3 ?_⟩
            rw [h4, valsL_at, hii.len]
            refine w10.app (n := n) (pos := (p.funcs[k].blocks[n].ins.length : Nat)) ?_ g.2 fun s' h' w' => hK1 _ _ hn' ⟨by rw [wnat hn' hsb.bd], ?_⟩
            · simp only [List.length_append]; omega
            · have e2 : sinkB L k n p.funcs[k].blocks[n] = sinkIs L k n p.funcs[k].blocks[n] p.funcs[k].blocks[n].ins.length ++ sinkV L k n p.funcs[k].blocks[n].ins.length p.funcs[k].blocks[n].e.val := by unfold sinkB; rw [if_pos g.1]
              rw [e, e2, ← List.append_assoc, ← List.append_assoc]
              exact w'.less lB2
          · refine Wk_self (hK1 _ _ hn' ⟨by rw [wnat hn' hsb.bd], ?_⟩)
            have e2 : sinkB L k n p.funcs[k].blocks[n] = sinkIs L k n p.funcs[k].blocks[n] p.funcs[k].blocks[n].ins.length := by
              unfold sinkB
              by_cases g2 : p.funcs[k].blocks[n].e.kind = 2
              · rw [if_pos g2]
                have : sinkV L k n p.funcs[k].blocks[n].ins.length p.funcs[k].blocks[n].e.val = [] := by
                  unfold sinkV
                  rw [if_pos (Classical.byContradiction fun x => g ⟨g2, x⟩)]
                rw [this, List.append_nil]
              · rw [if_neg g2, List.append_nil]
            rw [e, e2, ← List.append_assoc]
            exact w10.less lB2
    · have : n = p.funcs[k].blocks.length := by have := hsb.len; simp only at hge; omega
      subst this
      refine Wk_self (hK _ _ hk' ⟨by rw [wnat hk' hf.bd], ?_⟩)
      have e : sinkP L p (k + 1) = sinkP L p k ++ sinkF L k p.funcs[k].blocks p.funcs[k].blocks.length := allD_succ hk'
      rw [e]
      exact w7.less lB1
  · have : k = p.funcs.length := by have := hf.len; simp only at hge; omega
    subst this
    exact Wk_self (hR _ _ (l02.trans w3.le) (w3.own.slN encS_len (by omega)))
end Go.Proofs.Ytaefmhephoilmaa

/- TaintSinks: its walk. -/
namespace Go.Proofs.Ytaefmhephoilmaa
open Go Go.VL

theorem lenM_cutS {h : V} {q : Option Nat} {f : Int → Bool} {K : Int → Prop} (hq : cutQ h q f) (hK : ∀ n, K n) : LenM h q K := by
  cases q with
  | none => exact hK _
  | some r => obtain ⟨o, m, h1, h2, _⟩ := hq; exact LenM_map h1 h2 (hK _)
theorem right_len {p : ProgD} {i : InsD} (h : rightD p i = true) (h0 : 0 ≤ (shapeD i.op).1) : (i.args.length : Int) = (shapeD i.op).1 := by
  unfold rightD at h
  by_cases c1 : (shapeD i.op).1 = -2
  · rw [if_pos c1] at h; cases h
  rw [if_neg c1] at h
  by_cases c2 : 0 ≤ (shapeD i.op).1 ∧ (i.args.length : Int) ≠ (shapeD i.op).1
  · rw [if_pos c2] at h; cases h
  exact Classical.byContradiction fun x => c2 ⟨h0, x⟩
theorem two_box {h : V} {z1 z2 v1 v2 : List Value} {t1 t2 : TypeId} {K : Nat → Nat → V → Prop} (e1 : z1.length = v1.length) (e2 : z2.length = v2.length)
    (hk : ∀ r1 r2 h', Le h h' → h r1 = none → h r2 = none → Box h' r1 v1 t1 → Box h' r2 v2 t2 → K r1 r2 h') :
    New h (.cells ⟨z1⟩ t1) fun r1 h1 => New h1 (.cells ⟨z2⟩ t2) fun r2 h2 => StL h2 ⟨r1, 0, none⟩ 0 v1 fun h3 => StL h3 ⟨r2, 0, none⟩ 0 v2 fun h4 => K r1 r2 h4 := by
  refine New_box fun r1 h1 n1 l1 b1 => New_box fun r2 h2 n2 l2 b2 => StL_box (b1.le l2) e1 (l1.trans l2) n1 fun h3 l3 b3 f3 => ?_
  have ne : r2 ≠ r1 := fun e => by subst e; unfold Box at b1; rw [n2] at b1; cases b1
  have n2' := l1.nil n2
  have b2' : Box h3 r2 z2 t2 := by unfold Box; rw [f3 _ ne]; exact b2
  refine StL_box b2' e2 l3 n2' fun h4 l4 b4 f4 => hk r1 r2 h4 l4 n1 n2' ?_ b4
  unfold Box; rw [f4 _ (fun e => ne e.symm)]; exact b3
theorem isInts_two {h : V} {s : Sl} {l : List Int} (hs : isInts h s l) (h2 : l.length = 2) : ∃ x y, l = [x, y] := by
  match l, h2 with
  | [x, y], _ => exact ⟨x, y, rfl⟩

set_option maxRecDepth 100000 in
theorem walk6 {h : V} {p : ProgD} {sa sf pc : Sl} {cutIn : List (Int → Bool)} (ha : isArrs h sa p.arrays) (hf : isFuncs h sf p.funcs) (hc : isSl repCut 1 h pc cutIn) :
    ACalls Try.prog 6 [.agg ⟨[sV sa, sV sf, iV p.main]⟩, sV pc] h (fun v h' => v = .bool true ∧ Le h h') := by
  refine S6_ok _ _ _ _ _ _ (New_box fun r2 h1 hr2 l1 b2 => c_head fun h2 l2 => ⟨true, rfl, cond_not (fun e => by cases e) (fun _ => ?_)⟩)
  have l02 := l1.trans l2
  have b2' := b2.le l2
  have T : ∀ {hh}, Le h hh → Wk hh fun h' => (Value.bool true = .bool true ∧ Le h h') := fun l => Wk_self ⟨rfl, l⟩
  refine Cut_i (fun _ hh => h2 = hh ∧ FewOk p ∧ CheckOk p) (fun J hJ => ?_) ?_
  · refine ⟨(sa, sf, p.main, ()), b2'.cells, c_Few (ha.le mono_arr l02) (hf.le mono_func l02) fun b hb => ⟨b, rfl, cond_not (fun _ => T l02) (fun hy => ?_)⟩⟩
    have few := hb hy
    refine ⟨(sa, sf, p.main, ()), b2'.cells, c_Check (ha.le mono_arr l02) (hf.le mono_func l02) (few_B few) fun n _ hn => ⟨n, rfl, cond_nei (fun _ => T l02) (fun e => cond_dec (fun _ => T l02) (fun _ => Wk_self (hJ _ _ ⟨rfl, few, hn.1 e⟩)))⟩⟩
  rintro _ _ ⟨rfl, few, ok⟩
  refine Lp_count cutIn.length (fun k st hh => st = ((k : Int), ()) ∧ h2 = hh) ⟨rfl, rfl⟩ ?_
  rintro k _ _ K hk ⟨rfl, rfl⟩ hK
  refine cond_dec (fun hlt => ?_) (fun hge => ?_)
  · have hk' : k < cutIn.length := by have := hc.len; simp only at hlt; omega
    refine (hc.le mono_cut l02).ixn hk' fun a ⟨q, hq, hcq⟩ => ⟨q, hq, lenM_cutS hcq fun n => cond_dec (fun _ => T l02) (fun _ => Wk_self (hK _ _ hk' ⟨by rw [wnat hk' hc.bd], rfl⟩))⟩
  refine ⟨(sa, sf, p.main, ()), b2'.cells, ?_⟩
  refine c_Of (cutIn := cutIn) (ha.le mono_arr l02) (hf.le mono_func l02) (hc.le mono_cut l02) few (fun hn => absurd ok hn) fun _ h8 vs ar rs cs L l8 labA hL => ⟨((vs, ar, rs, cs, ()), 0, ()), rfl, ?_⟩
  refine New_box fun r7 h9 hr7 l9 b7 => StL_box (h := h8) b7 rfl l9 hr7 fun h10 l10 b7' f10 => ?_
  have l010 := (l02.trans l8).trans l10
  have b2z := (b2'.le l8).le l10
  have hv := labA.vals.le mono_vals l10
  have Lpos : ∀ t, 0 ≤ L t := fun t => by
    have := hL.ge t
    rcases L0_cases p t with e | ⟨e, _⟩ <;> omega
  refine cond_nei (fun h => absurd rfl h) fun _ => ?_
  refine New_box fun r53 h12 hr53 l12 b53 => New_box fun r9 h13 hr9 l13 b9 => StL_box (h := h12) b9 rfl l13 hr9 fun h14 l14 b9' f14 => ?_
  have w14 : WantS h10 h14 r9 [] := ⟨l12.trans l14, l12.nil hr9, ⟨some ⟨r53, 0, none⟩, 0, 0⟩, b9', rfl, Nat.le_refl _, Nat.zero_le _, .inr ⟨r53, 0, #[], rfl, hr53, l14 _ _ b53, by simp, by simp⟩⟩
  refine ⟨sf, (b2z.le w14.le).cell rfl, ?_⟩
  have hf10 := hf.le mono_func l010
  refine Lp_count p.funcs.length (fun k st hh => st = ((k : Int), ()) ∧ WantS h10 hh r9 (sinkP L p k)) ⟨rfl, w14⟩ ?_
  rintro k _ h15 K hk ⟨rfl, w15⟩ hK
  have total1 := sinkP_len L few (k := k) hk
  refine cond_dec (fun hlt => ?_) (fun hge => ?_)
  · have hk' : k < p.funcs.length := by have := hf.len; simp only at hlt; omega
    have few' := few.all _ (List.getElem_mem hk')
    have okf := ok.funcs _ (List.getElem_mem hk')
    refine hf10.ixn hk' fun a ⟨sb, hsb0, hcc⟩ => ⟨(p.funcs[k].name, sb, ()), cellsAt_le w15.le hcc, two_box (v1 := [iV k]) (v2 := [.string p.funcs[k].name, sV sb]) rfl rfl fun r10 r11 h19 l19 n10 n11 b10 b11 => ?_⟩
    obtain ⟨hB1, lB1, w19, e10, e11⟩ := w15.box2 l19 n10 b10 n11 b11
    have b10B : Box hB1 r10 [iV k] 3 := e10
    have hsb1 := hsb0.le mono_block lB1
    refine ⟨sb, b11.cell rfl, ?_⟩
    refine Lp_count p.funcs[k].blocks.length (fun n st hh => st = ((n : Int), ()) ∧ WantS hB1 hh r9 (sinkP L p k ++ sinkF L k p.funcs[k].blocks n)) ⟨rfl, by simpa [sinkF, allD_zero] using w19⟩ ?_
    rintro n _ h20 K1 hn ⟨rfl, w20⟩ hK1
    have total2 := sinkF_len L k few' hn
    refine cond_dec (fun hlt => ?_) (fun hge => ?_)
    · have hn' : n < p.funcs[k].blocks.length := by have := hsb0.len; simp only at hlt; omega
      have few2 := few'.all _ (List.getElem_mem hn')
      have okb := (okf.2.2.2.1 _ (List.getElem_mem hn')).2
      refine hsb1.ixn hn' fun a ⟨pp, ii, ww, hpp, hii0, hww, hcc⟩ => ⟨(pp, ii, p.funcs[k].blocks[n].e.kind, p.funcs[k].blocks[n].e.val, ww, p.funcs[k].blocks[n].e.trap, ()), cellsAt_le w20.le hcc, two_box (v1 := [iV n]) (v2 := blockV p.funcs[k].blocks[n] pp ii ww) rfl rfl fun r12 r13 h24 l24 n12 n13 b12 b13 => ?_⟩
      obtain ⟨hB2, lB2, w24, e12, e13⟩ := w20.box2 l24 n12 b12 n13 b13
      have b12B : Box hB2 r12 [iV n] 3 := e12
      have b13B : Box hB2 r13 (blockV p.funcs[k].blocks[n] pp ii ww) 55 := e13
      have hii := hii0.le mono_ins lB2
      have l10B2 := lB1.trans lB2
      have b7B := b7'.le l10B2
      have hvB := hv.le mono_vals l10B2
      have b10B2 := b10B.le lB2
      refine ⟨ii, b13.cell rfl, ?_⟩
      refine Lp_count p.funcs[k].blocks[n].ins.length (fun j st hh => st = ((j : Int), ()) ∧ WantS hB2 hh r9 ((sinkP L p k ++ sinkF L k p.funcs[k].blocks n) ++ sinkIs L k n p.funcs[k].blocks[n] j)) ⟨rfl, by simpa [sinkIs, allD_zero] using w24⟩ ?_
      rintro j _ h25 K2 hj ⟨rfl, w25⟩ hK2
      have total3 := sinkIs_len L k n few2 hj
      have lenA : ∀ x y : List SinkD, (x ++ y).length = x.length + y.length := fun _ _ => List.length_append
      refine cond_dec (fun hlt => ?_) (fun hge => ?_)
      · have hj' : j < p.funcs[k].blocks[n].ins.length := by have := hii.len; simp only at hlt; omega
        have few3 := few2.args _ (List.getElem_mem hj')
        have okr := okb _ (List.getElem_mem hj')
        have es : sinkIs L k n p.funcs[k].blocks[n] (j + 1) = sinkIs L k n p.funcs[k].blocks[n] j ++ sinkI L k n j p.funcs[k].blocks[n].ins[j] := allD_succ hj'
        refine elem_ins hii w25.le hj' rfl rfl fun q hq r16 h27 l27 l27' hr16 b16 => ?_
        generalize hi : p.funcs[k].blocks[n].ins[j] = i at *
        obtain ⟨hB3, lB3, w27, e16⟩ := w25.box1 l27' hr16 b16
        have hq3 := hq.le mono_int lB3
        refine ⟨(_, _, q, _, _, _, _, ()), b16.cells, c_KnownI (Le.refl h27) (hq3.le mono_int w27.le) (by omega) fun s80 h28 l28 hs80 => ⟨s80, rfl, ?_⟩⟩
        have i80 : isInts h28 s80 (knownD i) := hs80.elim (fun x => x.le mono_int l28) (fun x => x.ints)
        have w28 := w27.up l28
        have b16B : Box hB3 r16 (insV i q) 60 := e16
        have b16h := b16B.le w28.le
        have hqh := hq3.le mono_int w28.le
        have lBB := lB2.trans lB3
        have note : ∀ {hh l v} {K : V → Prop}, WantS hB3 hh r9 l → l.length ≤ 1000000 → (∀ h', WantS hB3 h' r9 (l ++ sinkV L k n j v) → K h') →
            CallV Try.prog (.func (.func 15) ⟨[]⟩ ⟨[(.pointer (some ⟨r7, 0, none⟩)), (.pointer (some ⟨r10, 0, none⟩)), (.pointer (some ⟨r9, 0, none⟩)), (.pointer (some ⟨r12, 0, none⟩))]⟩) [iV j, iV v] hh (.tup []) fun (_ : Unit) h' => K h' :=
          fun {hh l v K} w hl hK' => c_note w (b7B.le lB3) (hvB.le mono_vals lB3) hk' (b10B2.le lB3) (b12B.le lB3) (Lpos _) (by omega) fun h' w' => ⟨(), rfl, hK' h' w'⟩
        have done : ∀ {hh}, WantS hB3 hh r9 (((sinkP L p k ++ sinkF L k p.funcs[k].blocks n) ++ sinkIs L k n p.funcs[k].blocks[n] j) ++ sinkI L k n j i) → Wk hh fun h' => K2 (IntKind.wrap .i64 ((j : Int) + 1), ()) h' := fun {hh} w => Wk_self (hK2 _ _ hj' ⟨by rw [wnat hj' hii.bd], by rw [es, ← List.append_assoc]; exact w.less lB3⟩)
        have lenL : ((sinkP L p k ++ sinkF L k p.funcs[k].blocks n) ++ sinkIs L k n p.funcs[k].blocks[n] j).length ≤ 200000 := by rw [lenA, lenA]; omega
        refine Cut_i (fun c hh => h28 = hh ∧ c.1 = decide (i.op = 5 ∨ i.op = 6)) (fun J hJ => ?_) ?_
        · refine ⟨_, b16h.cell rfl, cond_eqi (fun e => Wk_self (hJ _ _ ⟨rfl, ?_⟩)) (fun e => ⟨_, b16h.cell rfl, Wk_self (hJ _ _ ⟨rfl, ?_⟩)⟩)⟩
          · have e : i.op = 5 := e
            simp [e]
          · have e : ¬ i.op = 5 := e
            simp [e]; rfl
        rintro ⟨c, u⟩ _ ⟨rfl, hc⟩
        have hc : c = _ := hc
        subst hc
        refine cond_dec (fun e56 => ?_) (fun e56 => ?_)
        · -- an index
          obtain ⟨x, l, hx⟩ : ∃ x l, i.args = x :: l := by
            cases hx : i.args with
            | nil =>
              have := right_len okr (by rcases e56 with e | e <;> (rw [e]; decide))
              rw [hx] at this
              rcases e56 with e | e <;> (rw [e] at this; simp [shapeD] at this)
            | cons x l => exact ⟨x, l, rfl⟩
          have hkn : knownD i = [x] := by unfold knownD; rw [if_pos ⟨e56, by rw [hx]; simp⟩, hx]; rfl
          have hsi : sinkI L k n j i = sinkV L k n j x := by unfold sinkI; rw [hkn]; simp
          have h0a : 0 < i.args.length := by rw [hx]; simp
          have hg0 : i.args[0]'h0a = x := by simp [hx]
          have h0k : 0 < (knownD i).length := by rw [hkn]; simp
          have hk0 : (knownD i)[0]'h0k = x := by simp [hkn]
          refine Cut_i (fun _ hh => h28 = hh) (fun J2 hJ2 => ?_) ?_
          · refine cond_nei (fun hne => absurd (by rw [i80.len, hkn]; rfl) hne) (fun _ => ?_)
            refine i80.ix (i := 0) (by omega) h0k fun a ha' => ⟨_, ha', q, b16h.cell rfl, hqh.ix (i := 0) (by omega) h0a fun a2 ha2 => ⟨_, ha2, cond_nei (fun hne => absurd (hk0.trans hg0.symm) hne) (fun _ => Wk_self (hJ2 _ _ rfl))⟩⟩
          · rintro _ _ rfl
            refine ⟨q, b16h.cell rfl, hqh.ix (i := 0) (by omega) h0a fun a2 ha2 => ⟨_, ha2, note w28 (by omega) fun h' w' => done ?_⟩⟩
            rw [hsi]
            have e : i.args[(0 : Int).toNat]'h0a = x := hg0
            rw [e] at w'
            exact w'
        refine Cut_i (fun c hh => h28 = hh ∧ c.1 = decide (i.op = 2 ∧ (i.bin = 4 ∨ i.bin = 5))) (fun J3 hJ3 => ?_) ?_
        · refine ⟨_, b16h.cell rfl, cond_eqi (fun e => ⟨_, b16h.cell rfl, cond_eqi (fun e4 => Wk_self (hJ3 _ _ ⟨rfl, ?_⟩)) (fun e4 => ⟨_, b16h.cell rfl, Wk_self (hJ3 _ _ ⟨rfl, ?_⟩)⟩)⟩) (fun e => Wk_self (hJ3 _ _ ⟨rfl, ?_⟩))⟩
          · have e : i.op = 2 := e
            have e4 : i.bin = 4 := e4
            simp [e, e4]
          · have e : i.op = 2 := e
            have e4 : ¬ i.bin = 4 := e4
            simp [e, e4]; rfl
          · have e : ¬ i.op = 2 := e
            simp [e]
        rintro ⟨c, u⟩ _ ⟨rfl, hc⟩
        have hc : c = _ := hc
        subst hc
        refine cond_dec (fun e2 => ?_) (fun e2 => ?_)
        · -- both sides
          have l2' : i.args.length = 2 := by
            have := right_len okr (by rw [e2.1]; decide)
            rw [e2.1] at this
            have h2 : (shapeD 2).1 = 2 := by decide
            omega
          obtain ⟨x, y, hx⟩ := isInts_two hqh l2'
          have hkn : knownD i = [x, y] := by unfold knownD; rw [if_neg (fun z => e56 z.1), if_pos e2, hx]
          have hsi : sinkI L k n j i = sinkV L k n j x ++ sinkV L k n j y := by unfold sinkI; rw [hkn]; simp
          have h0a : 0 < i.args.length := by omega
          have h1a : 1 < i.args.length := by omega
          have hg0 : i.args[0]'h0a = x := by simp [hx]
          have hg1 : i.args[1]'h1a = y := by simp [hx]
          have h0k : 0 < (knownD i).length := by rw [hkn]; simp
          have h1k : 1 < (knownD i).length := by rw [hkn]; simp
          have hk0 : (knownD i)[0]'h0k = x := by simp [hkn]
          have hk1 : (knownD i)[1]'h1k = y := by simp [hkn]
          refine Cut_i (fun _ hh => h28 = hh) (fun J2 hJ2 => ?_) ?_
          · refine cond_nei (fun hne => absurd (by rw [i80.len, hkn]; rfl) hne) (fun _ => ?_)
            refine i80.ix (i := 0) (by omega) h0k fun a ha' => ⟨_, ha', q, b16h.cell rfl, hqh.ix (i := 0) (by omega) h0a fun a2 ha2 => ⟨_, ha2, cond_nei (fun hne => absurd (hk0.trans hg0.symm) hne) (fun _ => ?_)⟩⟩
            refine i80.ix (i := 1) (by omega) h1k fun a ha' => ⟨_, ha', q, b16h.cell rfl, hqh.ix (i := 1) (by omega) h1a fun a2 ha2 => ⟨_, ha2, cond_nei (fun hne => absurd (hk1.trans hg1.symm) hne) (fun _ => Wk_self (hJ2 _ _ rfl))⟩⟩
          · rintro _ _ rfl
            refine ⟨q, b16h.cell rfl, hqh.ix (i := 0) (by omega) h0a fun a2 ha2 => ⟨_, ha2, note w28 (by omega) fun h' w' => ?_⟩⟩
            have e : i.args[(0 : Int).toNat]'h0a = x := hg0
            rw [e] at w'
            have v1 := sinkV_len L k n j x
            refine ⟨q, (b16B.le w'.le).cell rfl, (hq3.le mono_int w'.le).ix (i := 1) (by omega) h1a fun a2 ha2 => ⟨_, ha2, note w' (by rw [lenA]; omega) fun h' w'' => done ?_⟩⟩
            rw [hsi, ← List.append_assoc]
            have e : i.args[(1 : Int).toNat]'h1a = y := hg1
            rw [e] at w''
            exact w''
        · have hkn : knownD i = [] := by unfold knownD; rw [if_neg (fun z => e56 z.1), if_neg e2]
          have hsi : sinkI L k n j i = [] := by unfold sinkI; rw [hkn]; rfl
          refine cond_nei (fun hne => absurd (by rw [i80.len, hkn]; rfl) hne) (fun _ => done ?_)
          rw [hsi, List.append_nil]; exact w28
      · have : j = p.funcs[k].blocks[n].ins.length := by have := hii.len; simp only at hge; omega
        subst this
        have b13h := b13B.le w25.le
        have e : sinkF L k p.funcs[k].blocks (n + 1) = sinkF L k p.funcs[k].blocks n ++ sinkB L k n p.funcs[k].blocks[n] := allD_succ hn'
        refine ⟨_, by rw [Addr.add_add]; exact b13h.cell rfl, cond_eqi (fun g => ?_) (fun g => ?_)⟩
        · have g : p.funcs[k].blocks[n].e.kind = 2 := g
          refine ⟨ii, b13h.cell rfl, _, by rw [Addr.add_add]; exact b13h.cell rfl, ?_⟩
          rw [hii.len]
          refine c_note w25 b7B hvB hk' b10B2 b12B (Lpos _) (by rw [lenA, lenA]; omega) fun h' w' => ⟨(), rfl, Wk_self (hK1 _ _ hn' ⟨by rw [wnat hn' hsb0.bd], ?_⟩)⟩
          have e2 : sinkB L k n p.funcs[k].blocks[n] = sinkIs L k n p.funcs[k].blocks[n] p.funcs[k].blocks[n].ins.length ++ sinkV L k n p.funcs[k].blocks[n].ins.length p.funcs[k].blocks[n].e.val := by unfold sinkB; rw [if_pos g]
          rw [e, e2, ← List.append_assoc, ← List.append_assoc]
          exact w'.less lB2
        · have g : ¬ p.funcs[k].blocks[n].e.kind = 2 := g
          have e2 : sinkB L k n p.funcs[k].blocks[n] = sinkIs L k n p.funcs[k].blocks[n] p.funcs[k].blocks[n].ins.length := by unfold sinkB; rw [if_neg g, List.append_nil]
          refine Wk_self (hK1 _ _ hn' ⟨by rw [wnat hn' hsb0.bd], ?_⟩)
          rw [e, e2, ← List.append_assoc]
          exact w25.less lB2
    · have : n = p.funcs[k].blocks.length := by have := hsb0.len; simp only at hge; omega
      subst this
      refine Wk_self (hK _ _ hk' ⟨by rw [wnat hk' hf.bd], ?_⟩)
      have e : sinkP L p (k + 1) = sinkP L p k ++ sinkF L k p.funcs[k].blocks p.funcs[k].blocks.length := allD_succ hk'
      rw [e]
      exact w20.less lB1
  · have : k = p.funcs.length := by have := hf.len; simp only at hge; omega
    subst this
    have l15 := w15.le
    have b7z := b7'.le l15
    refine ⟨(sa, sf, p.main, ()), (b2z.le l15).cells, (vs, ar, rs, cs, ()), b7z.cells, ?_⟩
    refine c_Sinks (hf10.le mono_func l15) (hv.le mono_vals l15) few fun s182 h56 l56 i182 => ⟨s182, rfl, ?_⟩
    have w56 := w15.up l56
    obtain ⟨s, b9s, o9⟩ := w56.ex
    have i9 := o9.slN encS_len (by omega)
    have l056 := (l010.trans l15).trans l56
    refine ⟨s, b9s.cell0, cond_nei (fun hne => absurd (by rw [i182.len, i9.len]) hne) (fun _ => ?_)⟩
    refine Lp_count (sinkP L p p.funcs.length).length (fun k st hh => st = ((k : Int), ()) ∧ h56 = hh) ⟨rfl, rfl⟩ ?_
    rintro j _ _ K2 hj ⟨rfl, rfl⟩ hK2
    refine cond_dec (fun hlt => ?_) (fun _ => T l056)
    have hj' : j < (sinkP L p p.funcs.length).length := by have := i182.len; simp only at hlt; omega
    refine i182.ixn hj' fun a hra => ⟨(_, _, _, _, _, ()), hra, s, b9s.cell0, i9.ixn hj' fun a' hra' => ⟨(_, _, _, _, _, ()), hra', ?_⟩⟩
    refine cond_not (fun e => by simp at e) (fun _ => Wk_self (hK2 _ _ hj' ⟨by rw [wnat hj' i9.bd], rfl⟩))
end Go.Proofs.Ytaefmhephoilmaa

/- TaintSinks: the row. -/
namespace Go.Proofs.Ytaefmhephoilmaa
open Go Go.VL Go.ChangeShapes Go.WideShapes Go.ChangeAt Go.RowKit

theorem own : ownKnob Try.prog.godebug = none := by kernel_rfl
theorem laidOut : laidOutB Try.prog = true := by kernel_rfl
set_option maxRecDepth 100000 in
theorem lifted6 (os : Os) (started : os.Started) (H : Type) (enc : TypeId × Value → H) :
    ReturnsInHanded {} Try.checked os 6 .any (Rows.taintSinksSpec.pre6 enc Try.prog Try.f6 Rows.taintSinksRow.domain false) (Rows.taintSinksSpec.post enc Try.prog Try.f6 false true false false) := by
  refine returnsInHanded_of_change (C := Try.checked) own started (by kernel_rfl) Try.func6
    (ChangeSpec.witness6 (enc := enc) (C := Try.checked) false ⟨#[], #[.agg #[.slice none 0 0, .slice none 0 0, .int .i64 0], .slice none 0 0], []⟩ 8 (by kernel_rfl) (by kernel_rfl) (by kernel_rfl) (by kernel_rfl)) ?_
  intro W base args ds gs before hval0 hW hcnd _
  have hW' := hW
  obtain ⟨p, q, hA0, hV, rfl, hfz, hnd⟩ := hW
  have hA : DataW.TrodAll enc Try.prog W 0 (fun _ => true) true Try.f6.params.toList args.toList ds p := hA0
  have hval : ∀ (j : Nat) t v, Try.f6.params[j]? = some t → args[j]? = some v → Value.okWide Try.prog W .any base t v := hval0
  rw [show Try.f6.params = #[25, 26] from by kernel_rfl] at hA hval
  obtain ⟨v0, vs0, d0, ds0, p0, q0, hargs, rfl, rfl, h0, r0⟩ := trodAll_cons hA
  obtain ⟨v1, vs1, d1, ds1, p1, q1, rfl, rfl, rfl, h1, r1⟩ := trodAll_cons r0
  obtain ⟨rfl, rfl, rfl⟩ := trodAll_nil r1
  obtain rfl : args = #[v0, v1] := by cases args; simp_all
  obtain ⟨rfl, rfl⟩ := trodVars_none hV
  have k0 := h0
  have k1 := h1
  have lt0 : ∀ x ∈ p0, x.block < W.heap.size := by obtain ⟨m, hm⟩ := k0; exact DataW.trod_lt m _ _ _ hm
  have lt1 : ∀ x ∈ p1, x.block < W.heap.size := by obtain ⟨m, hm⟩ := k1; exact DataW.trod_lt m _ _ _ hm
  obtain ⟨m0, hm0⟩ := h0
  obtain ⟨m1, hm1⟩ := h1
  obtain ⟨sa, sf, pr, e0, ha, hf⟩ := rd_prog ⟨m0, _, hm0⟩
  obtain ⟨pc, cutIn, e1, hc⟩ := rd_cuts ⟨m1, _, hm1⟩
  have ev0 : v0 = .agg ⟨[sV sa, sV sf, iV pr.main]⟩ := by
    cases v0 <;> simp [Value.cells] at e0
    rename_i cs
    exact congrArg Value.agg (Array.ext' e0)
  have ev1 : v1 = sV pc := by
    obtain ⟨a, l, c, rfl⟩ := okWide_slice u26 (hval 1 26 v1 rfl rfl)
    simpa [Value.cells] using e1
  subst ev0 ev1
  refine ((walk6 ha hf hc).2 W (sees_of W)).mono fun e W' ⟨kept, v, h', he, hs, hv, hle⟩ => ?_
  subst he hv
  have bel := below_of kept hs hle
  exact ⟨_, rfl, _, _, _, [], _, [], hW', trodAll_mk1 (shut_bool u4 _), (trodAll_cons_mk (Below.trod laidOut (by kernel_rfl) (of_decide_eq_true (by kernel_rfl)) k0 bel lt0) (trodAll_cons_mk (Below.trod laidOut (by kernel_rfl) (of_decide_eq_true (by kernel_rfl)) k1 bel lt1) trodAll_mk0)), rfl, bel.frame _, fun h => by cases h⟩
theorem over6 : Rows.taintSinksRow.holds Try.pinned (OpenSpec.ofChange Rows.taintSinksSpec) :=
  OpenClaim.holds_of_wide 6 Try.f6 rfl rfl rfl rfl rfl rfl rfl ⟨rfl, rfl, rfl, rfl, rfl⟩ rfl rfl rfl rfl rfl (by kernel_rfl) Try.func6 (by kernel_rfl)
    (of_decide_eq_true (by kernel_rfl)) (by unfold Func.isWrapper; first | (rw [if_pos (by decide +kernel)]; kernel_rfl) | (rw [if_neg (by decide +kernel)]; exact ⟨rfl, rfl⟩))
    (fun os started H enc _ => lifted6 os started H enc)
theorem proved6 : Rows.TaintSinksSaid := over6
#print axioms proved6
end Go.Proofs.Ytaefmhephoilmaa
