/- TaintCuts: its walk. -/
import Derived.Test.YtaefmhephoilmaaRx
import Derived.Test.YtaefmhephoilmaaPf
import Derived.Test.YtaefmhephoilmaaCv
import Derived.Test.YtaefmhephoilmaaSe
namespace Go.Proofs.Ytaefmhephoilmaa
open Go Go.VL

theorem lenM_cut {h : V} {q : Option Nat} {f : Int → Bool} {K : Int → Prop} (hq : cutQ h q f) (hK : ∀ n, K n) : LenM h q K := by
  cases q with
  | none => exact hK _
  | some r => obtain ⟨o, m, h1, h2, _⟩ := hq; exact LenM_map h1 h2 (hK _)
/- all values up to the greatest one -/
def allV (f : FuncD) (v : Int) : Bool := decide (1 ≤ v) && decide (v ≤ FuncD.most f)
def allOf (p : ProgD) : List (Int → Bool) := p.funcs.map allV

theorem allOf_get {p : ProgD} {i : Nat} (h : i < (allOf p).length) (hi : i < p.funcs.length) : (allOf p)[i] = allV p.funcs[i] := by
  show (p.funcs.map allV)[i]'_ = _
  exact List.getElem_map _
set_option maxRecDepth 100000 in
theorem walk4 {h : V} {p : ProgD} {sa sf pc : Sl} {cutIn : List (Int → Bool)} (ha : isArrs h sa p.arrays) (hf : isFuncs h sf p.funcs) (hc : isSl repCut 1 h pc cutIn) :
    ACalls Try.prog 4 [.agg ⟨[sV sa, sV sf, iV p.main]⟩, sV pc] h (fun v h' => v = .bool true ∧ Le h h') := by
  refine S4_ok _ _ _ _ _ _ (New_box fun r2 h1 hr2 l1 b2 => c_head fun h2 l2 => ⟨true, rfl, cond_not (fun e => by cases e) (fun _ => ?_)⟩)
  have l02 := l1.trans l2
  have b2' := b2.le l2
  have T : ∀ {hh}, Le h hh → Wk hh fun h' => (Value.bool true = .bool true ∧ Le h h') := fun l => Wk_self ⟨rfl, l⟩
  refine Cut_i (fun _ hh => h2 = hh ∧ FewOk p ∧ CheckOk p) (fun J hJ => ?_) ?_
  · refine ⟨(sa, sf, p.main, ()), b2'.cells, c_Few (ha.le mono_arr l02) (hf.le mono_func l02) fun b hb => ⟨b, rfl, cond_not (fun _ => T l02) (fun hy => ?_)⟩⟩
    have few := hb hy
    refine ⟨(sa, sf, p.main, ()), b2'.cells, c_Check (ha.le mono_arr l02) (hf.le mono_func l02) (few_B few) fun n _ hn => ⟨n, rfl, cond_nei (fun _ => T l02) (fun e => cond_dec (fun _ => T l02) (fun _ => Wk_self (hJ _ _ ⟨rfl, few, hn.1 e⟩)))⟩⟩
  · rintro _ _ ⟨rfl, few, ok⟩
    refine Lp_count cutIn.length (fun k st hh => st = ((k : Int), ()) ∧ h2 = hh) ⟨rfl, rfl⟩ ?_
    rintro k _ _ K hk ⟨rfl, rfl⟩ hK
    refine cond_dec (fun hlt => ?_) (fun hge => ?_)
    · have hk' : k < cutIn.length := by have := hc.len; simp only at hlt; omega
      refine (hc.le mono_cut l02).ixn hk' fun a ⟨q, hq, hcq⟩ => ⟨q, hq, lenM_cut hcq fun n => cond_dec (fun _ => T l02) (fun _ => Wk_self (hK _ _ hk' ⟨by rw [wnat hk' hc.bd], rfl⟩))⟩
    · refine ⟨(sa, sf, p.main, ()), b2'.cells, ?_⟩
      refine c_Of (cutIn := []) (pc := ⟨none, 0, 0⟩) (ha.le mono_arr l02) (hf.le mono_func l02) (isSl_nil _ _ _) few (fun hn => absurd ok hn) fun _ h8 vsA arA rsA csA A l8 labA hA => ⟨((vsA, arA, rsA, csA, ()), 0, ()), rfl, ?_⟩
      refine New_box fun r7 h9 hr7 l9 b7 => StL_box (h := h8) b7 rfl l9 hr7 fun h10 l10 b7' f10 => ?_
      have l010 := (l02.trans l8).trans l10
      refine ⟨(sa, sf, p.main, ()), ((b2'.le l8).le l10).cells, ?_⟩
      refine c_Of (cutIn := cutIn) (ha.le mono_arr l010) (hf.le mono_func l010) (hc.le mono_cut l010) few (fun hn => absurd ok hn) fun _ h11 vsB arB rsB csB B l11 labB hB => ⟨((vsB, arB, rsB, csB, ()), 0, ()), rfl, ?_⟩
      refine New_box fun r9 h12 hr9 l12 b9 => StL_box (h := h11) b9 rfl l12 hr9 fun h13 l13 b9' f13 => ?_
      have l013 := (l010.trans l11).trans l13
      have b2'' := (((b2'.le l8).le l10).le l11).le l13
      refine New_box fun r59 h14 hr59 l14 b59 => ⟨sf, (b2''.le l14).cell rfl, ?_⟩
      have nf := few.funcs
      refine Lp_count p.funcs.length (fun k st hh => st.2 = ((k : Int), ()) ∧ Le h13 hh ∧ ∃ cl : List Nat, OwnS h13 hh st.1 29 1 (cl.map fun q => Value.map (some q)) ∧ cl.length = k ∧
          ∀ (f : Nat) q g, cl[f]? = some q → p.funcs[f]? = some g → FuncD.most g < 1000 ∧ ∃ o m, hh q = some o ∧ MapRep .bool o m ∧ ∀ v, (mget m v).getD false = allV g v)
        ⟨rfl, l14, [], ⟨rfl, Nat.le_refl _, Nat.zero_le _, .inr ⟨r59, 0, #[], rfl, hr59, b59, by simp, by simp⟩⟩, rfl, fun f q g hq => by simp at hq⟩ ?_
      rintro k ⟨s, kk, u⟩ h15 K hk ⟨hk2, l15, cl, o15, lencl, hcl⟩ hK
      obtain ⟨rfl, -⟩ := hk2
      refine cond_dec (fun hlt => ?_) (fun hge => ?_)
      · have hk' : k < p.funcs.length := by have := hf.len; simp only at hlt; omega
        have few' := few_B few _ (List.getElem_mem hk')
        refine elem_func (hf.le mono_func l013) l15 hk' rfl rfl fun sb hsb r13 h17 l17 l17' hr13 b13 => ?_
        intro r67 hr67
        have l18 := le_upd hr67 (.map #[] 0)
        have m67 : (h17.upd r67 (.map #[] 0)) r67 = some (.map #[] 0) := upd_self _ _ _
        generalize h17.upd r67 (.map #[] 0) = h18 at *
        have mostC : ∀ {hh} {R : Value → V → Prop}, Le h17 hh → R (iV (FuncD.most p.funcs[k])) hh → ACalls Try.prog 13 [.agg ⟨[.string p.funcs[k].name, sV sb]⟩] hh R := fun l hR => c_Most (hsb.le mono_block (l17.trans l)) hR
        refine Cut_i (fun _ hh => Le h17 hh ∧ ∃ o m, hh r67 = some o ∧ MapRep .bool o m ∧ (FuncD.most p.funcs[k] < 1000 → ∀ v, (mget m v).getD false = allV p.funcs[k] v)) (fun J hJ => ?_) ?_
        · have hmost : 0 ≤ FuncD.most p.funcs[k] := foldl_most_ge _ 0
          obtain ⟨big, hbig⟩ : ∃ big : Nat, big = 1000 := ⟨_, rfl⟩
          refine Lp_inv (fun n st hh => ∃ i : Nat, st = (((i : Int) + 1), ()) ∧ n = big - i ∧ (i : Int) ≤ FuncD.most p.funcs[k] ∧ Le h17 hh ∧ ∃ o m, hh r67 = some o ∧ MapRep .bool o m ∧ ∀ v, (mget m v).getD false = (decide (1 ≤ v) && decide (v ≤ (i : Int))))
            (n := big) ⟨0, by simp, by omega, hmost, l18, _, [], m67, MapRep.empty _, fun v => ?_⟩ ?_
          · rw [mget_nil]
            by_cases g : 1 ≤ v
            · have : ¬ v ≤ 0 := by omega
              simp [this]
            · simp [g]
          · rintro _ _ hh K2 ⟨i, rfl, rfl, him, l25, o, m, ho, hm, hg⟩ hK2
            refine ⟨(p.funcs[k].name, sb, ()), (b13.le l25).cells, mostC l25 ⟨_, rfl, ?_⟩⟩
            refine cond_dec (fun g1 => ?_) (fun g1 => ?_)
            · refine cond_dec (p := (i : Int) + 1 < 1000) (fun g2 => ?_) (fun g2 => ?_)
              · have g1 : (i : Int) + 1 ≤ FuncD.most p.funcs[k] := g1
                have g2 : (i : Int) + 1 < 1000 := g2
                refine MUpd_map (kd := .bool) (v := true) ho hm fun o' ho' => ?_
                refine Wk_self (hK2 (big - (i + 1)) _ _ (by omega) ⟨i + 1, ?_, rfl, by omega, l25.upd hr67 _, o', _, upd_self _ _ _, ho', fun v => ?_⟩)
                · rw [w64 (by simp only; omega) (by simp only; omega)]; simp
                · rw [mget_mset]
                  by_cases e : (i : Int) + 1 = v
                  · subst e
                    rw [if_pos rfl]
                    have h1 : (1 : Int) ≤ (i : Int) + 1 := by omega
                    have h2 : (i : Int) + 1 ≤ ((i + 1 : Nat) : Int) := by omega
                    simp [h1]
                  · rw [if_neg e, hg v]
                    have : (v ≤ ((i + 1 : Nat) : Int)) ↔ v ≤ (i : Int) := by omega
                    simp only [this]
              · have g1 : (i : Int) + 1 ≤ FuncD.most p.funcs[k] := g1
                have g2 : ¬ (i : Int) + 1 < 1000 := g2
                exact Wk_self (hJ _ _ ⟨l25, o, m, ho, hm, fun h => by omega⟩)
            · have g1 : ¬ (i : Int) + 1 ≤ FuncD.most p.funcs[k] := g1
              refine Wk_self (hJ _ _ ⟨l25, o, m, ho, hm, fun _ v => ?_⟩)
              rw [hg v]
              have : (i : Int) = FuncD.most p.funcs[k] := by omega
              unfold allV
              rw [this]
        · rintro _ h19 ⟨l19, o, m, ho, hm, hg⟩
          refine ⟨(p.funcs[k].name, sb, ()), (b13.le l19).cells, mostC l19 ⟨_, rfl, cond_dec (fun _ => T (l013.trans (l17.trans l19))) (fun hlt => ?_)⟩⟩
          have hlt : ¬ FuncD.most p.funcs[k] ≥ 1000 := hlt
          have hg := hg (by omega)
          refine New_box fun r85 h22 hr85 l22 b85 => ?_
          have l1522 := (l17'.trans l19).trans l22
          have o22 := o15.le l1522
          have n15 : cl.length = s.n := by have := o15.1; simpa using this
          refine App_one (l15.trans l1522) o22 b85 rfl (by omega) (by show (s.n + 1) * 8 ≤ 140737488355328; omega) fun s86 h23 l23 o23 n23 f23 d23 => ?_
          have map23 : ∀ q es clk, h22 q = some (.map es clk) → h23 q = some (.map es clk) := fun q es clk hq => by
            rw [f23 q (fun a ha' e => by obtain ⟨_, arr, h⟩ := o22.blk ha'; rw [← e, hq] at h; cases h) (by rw [hq]; simp)]; exact hq
          refine Wk_self (hK _ _ hk' ⟨by rw [wnat hk' hf.bd], l23, cl ++ [r67], by simpa using o23, by simp [lencl], fun f q g hq hfg => ?_⟩)
          rcases Nat.lt_or_ge f cl.length with g1 | g1
          · rw [List.getElem?_append_left g1] at hq
            obtain ⟨e0, o2, m2, e1, e2, e3⟩ := hcl f q g hq hfg
            obtain ⟨es, clk, rfl⟩ := isMap_of e2
            exact ⟨e0, _, m2, map23 _ _ _ (l1522 _ _ e1), e2, e3⟩
          · rw [List.getElem?_append_right g1] at hq
            have e : f = cl.length := by
              have := (List.getElem?_eq_some_iff.1 hq).1
              simp at this; omega
            subst e
            simp at hq
            subst hq
            rw [lencl, List.getElem?_eq_getElem hk'] at hfg
            cases hfg
            obtain ⟨es, clk, rfl⟩ := isMap_of hm
            exact ⟨by omega, _, m, map23 _ _ _ (l22 _ _ ho), hm, hg⟩
      · have : k = p.funcs.length := by have := hf.len; simp only at hge; omega
        subst this
        have sC : isSl repCut 1 h15 s (allOf p) := by
          obtain ⟨c1, c2, c3, c4⟩ := (o15.sl (rep := repMap) fun _ _ _ h => h : isSl repMap 1 h15 s cl)
          refine ⟨by rw [c1, lencl]; simp [allOf], c2, c3, fun i hi => ?_⟩
          have hi' : i < p.funcs.length := by simpa [allOf] using hi
          have hic : i < cl.length := by omega
          obtain ⟨a, e1, e2⟩ := c4 i hic
          obtain ⟨_, o, m, g1, g2, g3⟩ := hcl i _ _ (List.getElem?_eq_getElem hic) (List.getElem?_eq_getElem hi')
          exact ⟨a, e1, some cl[i], e2, o, m, g1, g2, fun v => by rw [g3, allOf_get _ hi']⟩
        have l015 := l013.trans l15
        refine ⟨(sa, sf, p.main, ()), (b2''.le l15).cells, ?_⟩
        refine c_Of (cutIn := allOf p) (ha.le mono_arr l015) (hf.le mono_func l015) sC few (fun hn => absurd ok hn) fun _ h31 vsD arD rsD csD D l31 labD hD => ⟨((vsD, arD, rsD, csD, ()), 0, ()), rfl, ?_⟩
        refine New_box fun r16 h32 hr16 l32 b16 => StL_box (h := h31) b16 rfl l32 hr16 fun h33 l33 b16' f33 => ?_
        have l033 := (l015.trans l31).trans l33
        have l1333 := (l15.trans l31).trans l33
        have b2z := b2''.le l1333
        have b7z := ((b7'.le l11).le l13).le l1333
        have b9z := b9'.le l1333
        have vA := ((((labA.vals.le mono_vals l10).le mono_vals l11).le mono_vals l13).le mono_vals l1333)
        have vB := (labB.vals.le mono_vals l13).le mono_vals l1333
        have vD := labD.vals.le mono_vals l33
        have BA : LeL B A := more_cut hA hB fun f v h => by simp [cutOf] at h
        have all2 : ∀ r ∈ progRaw p (writesD p), ∀ g v, r.tgt = .val g v → cutOf (allOf p) g v = true := fun r hr g v e => by
          obtain ⟨hg, hm⟩ := raw_made ok r hr g v e
          have h1 := made_pos (ok.funcs _ (List.getElem_mem hg)) hm
          have h2 := made_most hm
          unfold cutOf
          rw [getD_lt (show g < (allOf p).length by simpa [allOf] using hg), allOf_get _ hg]
          unfold allV
          have h1 : 1 ≤ v := by omega
          simp [h1, h2]
        have D1 := no_one hD all2
        have DB : LeL D B := fun t => by
          have h2 := hB.le2 t
          have hd2 := hD.le2 t
          have hd1 := D1 t
          have hd0 : 0 ≤ D t := by
            have := hD.ge t
            rcases L0_cases p t with e | ⟨e, _⟩ <;> omega
          have hb0 : 0 ≤ B t := by
            have := hB.ge t
            rcases L0_cases p t with e | ⟨e, _⟩ <;> omega
          by_cases e : D t = 2
          · rw [e, same_two hD hB t e]; exact Int.le_refl _
          · omega
        refine Cut_i (fun _ hh => h33 = hh) (fun J hJ => ?_) ?_
        · exact cond_nei (fun h => absurd rfl h) fun _ => cond_nei (fun h => absurd rfl h) fun _ => cond_nei (fun h => absurd rfl h) fun _ => Wk_self (hJ _ _ rfl)
        · rintro _ _ rfl
          refine ⟨sf, b2z.cell rfl, ?_⟩
          refine Lp_count p.funcs.length (fun k st hh => st = ((k : Int), ()) ∧ h33 = hh) ⟨rfl, rfl⟩ ?_
          rintro k _ _ K hk ⟨rfl, rfl⟩ hK
          refine cond_dec (fun hlt => ?_) (fun hge => T l033)
          have hk' : k < p.funcs.length := by have := hf.len; simp only at hlt; omega
          obtain ⟨big, hbig⟩ : ∃ big : Nat, big = (FuncD.most p.funcs[k]).toNat + 1 := ⟨_, rfl⟩
          refine Lp_inv (fun n st hh => ∃ i : Nat, st = (((i : Int) + 1), ()) ∧ n = big - i ∧ h33 = hh) (n := big) ⟨0, by simp, by omega, rfl⟩ ?_
          rintro _ _ _ K2 ⟨i, rfl, rfl, rfl⟩ hK2
          refine ⟨sf, b2z.cell rfl, (hf.le mono_func l033).ixn hk' fun a ⟨sb, hsb, hcc⟩ => ⟨(_, sb, ()), hcc, c_Most hsb ⟨_, rfl, ?_⟩⟩⟩
          refine cond_dec (fun g1 => ?_) (fun g1 => Wk_self (hK _ _ hk' ⟨by rw [wnat hk' hf.bd], rfl⟩))
          have hkA : ∀ (L : LabF), k < ((List.range p.funcs.length).map fun f v => L (.val f v)).length := fun L => by simpa using hk'
          refine ⟨vsA, b7z.cell0, vA.ixn (hkA A) fun a ⟨qA, oA, mA, x1, x2, x3, x4⟩ => ⟨some qA, x1, Look_map x2 x3 ?_⟩⟩
          refine ⟨vsB, b9z.cell0, vB.ixn (hkA B) fun a ⟨qB, oB, mB, y1, y2, y3, y4⟩ => ⟨some qB, y1, Look_map y2 y3 ?_⟩⟩
          refine ⟨vsD, b16'.cell0, vD.ixn (hkA D) fun a ⟨qD, oD, mD, z1, z2, z3, z4⟩ => ⟨some qD, z1, Look_map z2 z3 ?_⟩⟩
          rw [x4, y4, z4]
          simp only [List.getElem_map, List.getElem_range]
          have i1 := BA (.val k ((i : Int) + 1))
          have i2 := DB (.val k ((i : Int) + 1))
          have i3 := D1 (.val k ((i : Int) + 1))
          have eAD : (A (.val k ((i : Int) + 1)) == 2) = (D (.val k ((i : Int) + 1)) == 2) := by
            rw [Bool.eq_iff_iff, beq_iff_eq, beq_iff_eq]; exact ⟨same_two hA hD _, same_two hD hA _⟩
          have eBD : (B (.val k ((i : Int) + 1)) == 2) = (D (.val k ((i : Int) + 1)) == 2) := by
            rw [Bool.eq_iff_iff, beq_iff_eq, beq_iff_eq]; exact ⟨same_two hB hD _, same_two hD hB _⟩
          have g1 : (i : Int) + 1 ≤ FuncD.most p.funcs[k] := g1
          refine cond_dec (fun h => absurd h (by omega)) (fun _ => cond_dec (fun h => absurd h (by omega)) (fun _ => cond_eqi (fun h => absurd h i3) (fun _ => ?_)))
          rw [eAD, eBD]
          refine cond_not (fun h => by rw [beq_self_eq_true] at h; cases h) (fun _ => cond_not (fun h => by rw [beq_self_eq_true] at h; cases h) (fun _ => ?_))
          have hmb : FuncD.most p.funcs[k] < 1000 := (hcl k _ _ (List.getElem?_eq_getElem (show k < cl.length by omega)) (List.getElem?_eq_getElem hk')).1
          refine Wk_self (hK2 (big - (i + 1)) _ _ (by omega) ⟨i + 1, ?_, rfl, rfl⟩)
          rw [w64 (by omega) (by omega)]; simp
end Go.Proofs.Ytaefmhephoilmaa
