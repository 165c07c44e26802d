/- Code, and the contract of a function. -/
import Derived.Test.YtaefmhephoilmaaVordc
namespace Go.VL
open Go

section
variable {P : Program} {nt : Nat} {w0 : World}

theorem LQ.imp {F F' : Act → Prop} {Q Q' : Exit → Env → V → Prop} (hF : ∀ a, F a → F' a) (hQ : ∀ e E h, Q e E h → Q' e E h) {e : Exit} {a : Act} {w : World} (h : LQ nt w0 F Q e a w) : LQ nt w0 F' Q' e a w :=
  ⟨h.1, hF _ h.2.1, let ⟨E, hh, g, s, q⟩ := h.2.2; ⟨E, hh, g, s, hQ _ _ _ q⟩⟩

theorem awp_sound (hm : P.follows .mixedOrders = true) : ∀ (c : Code) (an : An) (Q : Exit → Env → V → Prop) (F : Act → Prop) (E : Env) (h : V) (a : Act) (w : World),
    Stable (Code.wr c) F → (∀ d ∈ Code.wr c, d < nt) → awp P an c Q E h → Agr nt a E → Sees w h → Kept w0 w → F a → c.wp P (LQ nt w0 F Q) a w
  | .skip, an, Q, F, E, h, a, w, _, _, hk, g, s, k, f => wp_skip ⟨k, f, E, h, g, s, by unfold awp at hk; exact hk⟩
  | .label l, an, Q, F, E, h, a, w, _, _, hk, g, s, k, f => wp_label ⟨k, f, E, h, g, s, by unfold awp at hk; exact hk⟩
  | .ret, an, Q, F, E, h, a, w, _, _, hk, g, s, k, f => wp_ret ⟨k, f, E, h, g, s, by unfold awp at hk; exact hk⟩
  | .exit id, an, Q, F, E, h, a, w, _, _, hk, g, s, k, f => wp_exit ⟨k, f, E, h, g, s, by unfold awp at hk; exact hk⟩
  | .seq x y, an, Q, F, E, h, a, w, hF, hnt, hk, g, s, k, f => by
    have hFx : Stable (Code.wr x) F := hF.sub fun t ht => by simp [Code.wr, ht]
    have hFy : Stable (Code.wr y) F := hF.sub fun t ht => by simp [Code.wr, ht]
    have nx : ∀ d ∈ Code.wr x, d < nt := fun d hd => hnt d (by simp [Code.wr, hd])
    have ny : ∀ d ∈ Code.wr y, d < nt := fun d hd => hnt d (by simp [Code.wr, hd])
    cases an with
    | two ax ay =>
      have hk : awp P ax x (thenN (awp P ay y Q) Q) E h := by unfold awp at hk; exact hk
      refine wp_seq (wp_mono (awp_sound hm x ax _ F E h a w hFx nx hk g s k f) fun e a' w' hq => ?_)
      obtain ⟨k', f', E', h', g', s', q⟩ := hq
      cases e <;> first | exact awp_sound hm y ay Q F E' h' a' w' hFy ny q g' s' k' f' | exact ⟨k', f', E', h', g', s', q⟩
    | cut cs ax ay =>
      have hk : awp P ax x (thenN (fun E' h' => selE cs E' fun s => Wk h' fun h'' => awp P ay y Q (bindE cs s ++ keepE (Code.wr x) E) h'') Q) E h := by unfold awp at hk; exact hk
      have hF2 : Stable (Code.wr x) fun a => F a ∧ Agr nt a (keepE (Code.wr x) E) := fun a d v hd ha => ⟨hFx a d v hd ha.1, stable_keep nt _ E a d v hd ha.2⟩
      refine wp_seq (wp_mono (awp_sound hm x ax _ _ E h a w hF2 nx hk g s k ⟨f, g.keep _⟩) fun e a' w' hq => ?_)
      obtain ⟨k', f', E', h', g', s', q⟩ := hq
      cases e with
      | normal =>
        obtain ⟨st, gs, h'', hle, q⟩ := selE_some g' (f := fun s => Wk h' fun h'' => awp P ay y Q (bindE cs s ++ keepE (Code.wr x) E) h'') q
        exact awp_sound hm y ay Q F _ h'' a' w' hFy ny q (gs.append f'.2) (s'.le hle) k' f'.1
      | _ => exact ⟨k', f'.1, E', h', g', s', q⟩
    | _ => unfold awp at hk; exact hk.elim
  | .cond c x y, an, Q, F, E, h, a, w, hF, hnt, hk, g, s, k, f => by
    have hFx : Stable (Code.wr x) F := hF.sub fun t ht => by simp [Code.wr, ht]
    have hFy : Stable (Code.wr y) F := hF.sub fun t ht => by simp [Code.wr, ht]
    have nx : ∀ d ∈ Code.wr x, d < nt := fun d hd => hnt d (by simp [Code.wr, hd])
    have ny : ∀ d ∈ Code.wr y, d < nt := fun d hd => hnt d (by simp [Code.wr, hd])
    cases an with
    | two ax ay =>
      unfold awp at hk
      split at hk
      case h_2 => exact hk.elim
      rename_i t hv
      cases t with
      | true => exact wp_cond_true (g.ev hv) (awp_sound hm x ax Q F E h a w hFx nx hk g s k f)
      | false => exact wp_cond_false (g.ev hv) (awp_sound hm y ay Q F E h a w hFy ny hk g s k f)
    | _ => unfold awp at hk; exact hk.elim
  | .block id x, an, Q, F, E, h, a, w, hF, hnt, hk, g, s, k, f => by
    cases an with
    | one ax =>
      have hk : awp P ax x (inBlockN id Q) E h := by unfold awp at hk; exact hk
      refine wp_block (wp_mono (awp_sound hm x ax _ F E h a w hF hnt hk g s k f) fun e a' w' hq => ?_)
      obtain ⟨k', f', E', h', g', s', q⟩ := hq
      cases e with
      | exit id' =>
        simp only [inBlockN] at q
        simp only [Exit.inBlock]
        cases hb : Nat.beq id' id with
        | true =>
          rw [hb] at q
          rw [if_pos (Nat.eq_of_beq_eq_true hb)]
          exact ⟨k', f', E', h', g', s', q⟩
        | false =>
          rw [hb] at q
          rw [if_neg (fun e => by subst e; simp [Nat.beq_eq_true_eq] at hb)]
          exact ⟨k', f', E', h', g', s', q⟩
      | _ => exact ⟨k', f', E', h', g', s', q⟩
    | _ => unfold awp at hk; exact hk.elim
  | .loop x, an, Q, F, E, h, a, w, hF, hnt, hk, g, s, k, f => by
    cases an with
    | loop cs ax =>
      unfold awp at hk
      obtain ⟨st, gs, n, hn⟩ := selE_some g hk
      have hF2 : Stable (Code.wr x) fun a => F a ∧ Agr nt a (keepE (Code.wr x) E) := fun a d v hd ha => ⟨hF a d v hd ha.1, stable_keep nt _ E a d v hd ha.2⟩
      refine wp_loop_n (n := n) (fun n a' w' => Kept w0 w' ∧ (F a' ∧ Agr nt a' (keepE (Code.wr x) E)) ∧ ∃ st h', Agr nt a' (bindE cs st) ∧ Sees w' h' ∧
        LpN (fun K s h' => awp P ax x (thenN (fun E' h' => selE cs E' fun s' => Wk h' fun h'' => K s' h'') Q) (bindE cs s ++ keepE (Code.wr x) E) h') n st h') ?_ ⟨k, ⟨f, g.keep _⟩, st, h, gs, s, hn⟩
      rintro n a1 w1 ⟨k1, f1, st1, h1, g1, s1, hn1⟩
      cases n with
      | zero => exact hn1.elim
      | succ n =>
        refine wp_mono (awp_sound hm x ax _ _ _ h1 a1 w1 hF2 hnt hn1 (g1.append f1.2) s1 k1 f1) fun e a' w' hq => ?_
        obtain ⟨k', f', E', h', g', s', q⟩ := hq
        cases e with
        | normal =>
          obtain ⟨st', gs', h'', hle, q⟩ := selE_some g' (f := fun s' => Wk h' fun h'' => LpN (fun K s h' => awp P ax x (thenN (fun E' h' => selE cs E' fun s' => Wk h' fun h'' => K s' h'') Q) (bindE cs s ++ keepE (Code.wr x) E) h') n s' h'') q
          exact ⟨n, by omega, k', f', st', h'', gs', s'.le hle, q⟩
        | _ => exact ⟨k', f'.1, E', h', g', s', q⟩
    | _ => unfold awp at hk; exact hk.elim
  | .region id ops d, an, Q, F, E, h, a, w, hF, hnt, hk, g, s, k, f => by
    have hF' : Stable (ops.toList.filterMap (·.dst)) F := hF
    cases d with
    | false =>
      cases an with
      | nil =>
        unfold awp at hk
        exact wp_region (aops_sound hF' hnt _ E h a w hk g s k f)
      | _ => unfold awp at hk; exact hk.elim
    | true =>
      cases an with
      | perm l xs =>
        unfold awp at hk
        cases hok : okPerm ops.toList l xs with
        | false => rw [hok] at hk; exact hk.elim
        | true =>
          rw [hok] at hk
          exact region_draw_sound hm hok hF' hnt hk g s k f
      | _ => unfold awp at hk; exact hk.elim
  | .scope x, an, Q, F, E, h, a, w, _, _, hk, g, s, k, f => by cases an <;> (unfold awp at hk; exact hk.elim)
  | .goto l, an, Q, F, E, h, a, w, _, _, hk, g, s, k, f => by cases an <;> (unfold awp at hk; exact hk.elim)
  | .refuse l, an, Q, F, E, h, a, w, _, _, hk, g, s, k, f => by cases an <;> (unfold awp at hk; exact hk.elim)
  | .rangeFunc _ _ _ _, an, Q, F, E, h, a, w, _, _, hk, g, s, k, f => by cases an <;> (unfold awp at hk; exact hk.elim)

theorem eget_enum {t : Nat} {v : Value} : ∀ {vs : List Value} {i : Nat}, eget (enumE i vs) t = some v → i ≤ t ∧ vs[t - i]? = some v
  | [], _, h => by simp [enumE, eget] at h
  | u :: vs, i, h => by
    rw [enumE, eget_cons] at h
    by_cases e : i = t
    · subst e; rw [if_pos rfl] at h; cases h; exact ⟨Nat.le_refl _, by simp⟩
    · rw [if_neg e] at h
      obtain ⟨h1, h2⟩ := eget_enum (vs := vs) h
      refine ⟨by omega, ?_⟩
      rw [show t - i = (t - (i + 1)) + 1 by omega]
      simpa using h2
def resOne (tmps : Array Value) : ResultVar → Sem Value
  | .tmp t => pure (tmps.getD t undef)
  | .cell ad t => do loadVar t (← asAddr (tmps.getD ad undef))
theorem run_results {rs : List ResultVar} : ∀ {E : Env} {h : V} {a : Act} {w : World} {f : List Value → Prop}, Agr nt a E → Sees w h → resE P E h rs f →
    ∃ vs, (rs.mapM (resOne a.tmps)).run P w = .ok vs w ∧ f vs := by
  induction rs with
  | nil => intro E h a w f g s hf; exact ⟨[], by simp, hf⟩
  | cons r rs ih =>
    intro E h a w f g s hf
    cases r with
    | tmp t =>
      simp only [resE] at hf
      split at hf
      case h_2 => exact hf.elim
      rename_i v hv
      obtain ⟨vs, hrun, hf⟩ := ih g s hf
      refine ⟨v :: vs, ?_, hf⟩
      have h1 : (resOne a.tmps (.tmp t)).run P w = .ok v w := by simp only [resOne, Sem.run_pure, (g.get t v hv).2]
      rw [List.mapM_cons]
      simp only [Sem.run_bind, Sem.run_pure, Result.andThen_ok, h1, hrun]
    | cell ad t =>
      simp only [resE] at hf
      split at hf
      case h_2 => exact hf.elim
      rename_i p hv
      have hp := (g.get ad _ hv).2
      split at hf
      · rename_i k hl
        cases hA : isAggT P t with
        | true => rw [hA] at hf; exact hf.elim
        | false =>
          rw [hA] at hf
          obtain ⟨x, hc, hf⟩ := hf
          obtain ⟨d, hd⟩ := layT_under hl
          obtain ⟨vs, hrun, hf⟩ := ih g s hf
          refine ⟨k.mk x :: vs, ?_, hf⟩
          have h1 : (resOne a.tmps (.cell ad t)).run P w = .ok (k.mk x) w := by simp only [resOne, Sem.run_bind, Sem.run_pure, Result.andThen_ok, hp, asAddr, loadVar, run_isAgg hd, hA, Bool.false_eq_true, if_false, run_load, s.cell hc]
          rw [List.mapM_cons]
          simp only [Sem.run_bind, Sem.run_pure, Result.andThen_ok, h1, hrun]
      · rename_i ks hl
        cases hA : Nat.beq ks.length (cellsN P t) with
        | false => rw [hA] at hf; exact hf.elim
        | true =>
          rw [hA] at hf
          obtain ⟨x, hc, hf⟩ := hf
          have hsz := Nat.eq_of_beq_eq_true hA
          obtain ⟨d, hd⟩ := layT_under hl
          obtain ⟨i, hi⟩ := info_of_under hd
          have hag : isAggT P t = true := by
            unfold layT at hl
            rw [hd] at hl
            unfold isAggT
            rw [hd]
            cases d <;> first | rfl | (simp only at hl; split at hl <;> cases hl) | cases hl
          obtain ⟨vs, hrun, hf⟩ := ih g s hf
          refine ⟨.agg ⟨mks ks x⟩ :: vs, ?_, hf⟩
          have hlc := run_loadCells_view (P := P) s hc
          rw [mks_length, hsz, cellsN_of hi] at hlc
          have h1 : (resOne a.tmps (.cell ad t)).run P w = .ok (.agg ⟨mks ks x⟩) w := by simp only [resOne, Sem.run_bind, Sem.run_pure, Result.andThen_ok, hp, asAddr, loadVar, run_isAgg hd, hag, if_true, run_sizeOf hi, hlc]
          rw [List.mapM_cons]
          simp only [Sem.run_bind, Sem.run_pure, Result.andThen_ok, h1, hrun]
      · exact hf.elim
theorem ABody_sound (hm : P.follows .mixedOrders = true) {f : FuncId} {fn : Func} {an : An} {args : List Value} {h : V} {R : Value → V → Prop} (hf : P.funcs[f]? = some fn)
    (hcall : ∀ args w, (callFunc f args).run P w = .ok (.enter f args) w) (hargs : Nat.ble args.length fn.ntmps = true) (hnt : (fn.body.all fun c => (Code.wr c).all fun d => Nat.blt d fn.ntmps) = true)
    (hk : ABody P an fn args h R) : ACalls P f args h R := by
  refine ⟨hcall, fun w s => ?_⟩
  unfold ABody at hk
  cases hb : fn.body with
  | none => rw [hb] at hk; exact hk.elim
  | some c =>
    rw [hb] at hk
    refine calls_of_wp hf hb ?_
    have hnt' : ∀ d ∈ Code.wr c, d < fn.ntmps := fun d hd => by
      have hnt2 : ((Code.wr c).all fun d => Nat.blt d fn.ntmps) = true := by rw [hb] at hnt; exact hnt
      have := List.all_eq_true.1 hnt2 d hd
      have : Nat.ble (d + 1) fn.ntmps = true := this
      exact Nat.le_of_ble_eq_true this
    have g0 : Agr fn.ntmps { tmps := (⟨args⟩ : Array Value) ++ Array.replicate (fn.ntmps - (⟨args⟩ : Array Value).size) undef, defers := [] } (enumE 0 args) := by
      have hargs := Nat.le_of_ble_eq_true hargs
      refine ⟨by simp; omega, rfl, fun t v hv => ?_⟩
      obtain ⟨_, h2⟩ := eget_enum hv
      simp only [Nat.sub_zero] at h2
      have hlt : t < args.length := (List.getElem?_eq_some_iff.1 h2).1
      refine ⟨by omega, ?_⟩
      rw [Array.getD_eq_getD_getElem?, Array.getElem?_append_left (by simpa using hlt)]
      simp [h2]
    refine wp_mono (awp_sound (w0 := w) hm c an _ (fun _ => True) _ h _ w (fun _ _ _ _ _ => trivial) hnt' hk g0 s (Kept.refl w) trivial) fun e a' w' hq => ?_
    obtain ⟨k', _, E', h', g', s', q⟩ := hq
    have fin : resE P E' h' fn.results.toList (fun vs => Wk h' fun h'' => R (oneV vs) h'') → a'.defers = [] ∧ ∃ v, (results fn a'.tmps).run P w' = .ok v w' ∧ (Kept w w' ∧ ∃ v' h'', Ending.returned v = .returned v' ∧ Sees w' h'' ∧ R v' h'') := by
      intro q
      obtain ⟨vs, hrun, h'', hle, hR⟩ := run_results g' s' q
      refine ⟨g'.defers, oneV vs, ?_, k', oneV vs, h'', rfl, s'.le hle, hR⟩
      have hres : results fn a'.tmps = (do
          let vs ← fn.results.mapM (resOne a'.tmps)
          pure (if h : vs.size = 1 then vs[0] else .tuple vs)) := rfl
      rw [hres, Array.mapM_eq_mapM_toList]
      simp only [Sem.run_bind, Sem.run_map, hrun, Result.andThen_ok, Sem.run_pure]
      congr 1
      cases vs with
      | nil => rfl
      | cons v vs => cases vs <;> simp [oneV]
    cases e with
    | normal => exact fin q
    | ret => exact fin q
    | _ => exact q.elim
end
end Go.VL
