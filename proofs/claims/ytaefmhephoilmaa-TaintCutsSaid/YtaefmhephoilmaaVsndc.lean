/- Operation by operation, third part: maps, literals, append, calls. -/
import Derived.Test.YtaefmhephoilmaaVsndb
namespace Go.VL
open Go Go.MapKept

section
variable {P : Program} {nt : Nat} {E : Env} {o : Oper} {a : Act} {w : World} {h : V} {K : Value → V → Prop} {next : Act → World → Prop} {Q : Exit → Act → World → Prop}

theorem keyT_under {t : TypeId} {d : TypeDesc} (h : keyT P t = some d) : P.underlying t = some d := by
  unfold keyT at h
  split at h <;> first | (cases h; assumption) | cases h
theorem keyT_checks {t : TypeId} {d : TypeDesc} (h : keyT P t = some d) (e : Bool) (k : Value) : (Instr.checkKey e 10000 t k).run P w = .ok () w := by
  have hd := keyT_under h
  have key : ∀ n, (Instr.checkKey e (n + 1) t k).run P w = .ok () w := by
    intro n
    unfold Instr.checkKey
    simp only [Sem.run_bind, run_underlying hd, Result.andThen_ok]
    unfold keyT at h
    split at h <;> first | (cases h; cases k <;> simp) | cases h
  exact key 9999
theorem run_getMap (s : Sees w h) {r : Nat} {es : Array MapEntry} {clk : Nat} (hr : h r = some (.map es clk)) : (getObj r).run P w = .ok (.map es clk) w := run_getObj_map (s _ _ hr)
theorem run_setMap (s : Sees w h) {r : Nat} {ob : Obj} (hr : h r = some ob) (hnc : ∀ c e f, ob ≠ .cells c e f) (o' : Obj) : (setObj r o').run P w = .ok () { w with heap := w.heap.setIfInBounds r o' } := by
  have := s _ _ hr
  cases ob with
  | cells c e f => exact absurd rfl (hnc c e f)
  | _ => simp [setObj, Sem.run, this]
theorem getK_some : ∀ {k : Kd} {v : Value} {x : k.T}, getK k v = some x → v = k.mk x := by
  intro k v x hx
  cases k with
  | int k =>
    cases v <;> simp only [getK, reduceCtorEq] at hx
    split at hx
    · rename_i e _; subst e; cases hx; rfl
    · cases hx
  | raw => simp only [getK, Option.some.injEq] at hx; exact hx
  | _ => cases v <;> first | (cases hx; done) | (simp only [getK, Option.some.injEq] at hx; subst hx; rfl)
theorem getKs_some : ∀ {ks : List Kd} {vs : List Value} {x : Tys ks}, getKs ks vs = some x → vs = mks ks x
  | [], [], _, _ => rfl
  | [], _ :: _, _, h => by cases h
  | _ :: _, [], _, h => by cases h
  | k :: ks, v :: vs, x, hx => by
    simp only [getKs] at hx
    split at hx
    · rename_i y z h1 h2
      cases hx
      rw [getK_some h1, getKs_some h2]
    · cases hx
theorem getL_some {l : Ly} {v : Value} {x : l.T} (hx : getL l v = some x) : v = l.mk x := by
  cases l with
  | one k => exact getK_some hx
  | agg ks =>
    cases v <;> first | (cases hx; done) | skip
    rename_i cs
    have := getKs_some (ks := ks) (vs := cs.toList) hx
    show Value.agg cs = Value.agg ⟨mks ks x⟩
    rw [← this]
theorem snd_lookup {t : TypeId} {x y : Operand} {ok : Bool} (ho : o.op = .lookup t x y ok) (hn : Nx o a w K next) (g : Agr nt a E) (s : Sees w h) {r : R} (hr : rsv P E o = some r) (hk : r.run P h K) : o.wp P a w next Q := by
  simp only [rsv, ho] at hr
  split at hr
  case h_2 => cases hr
  rename_i kt et q k h1 h2 h3
  split at hr
  case h_2 => cases hr
  rename_i d l z h4 h5 h6
  simp only [Option.map_eq_some_iff] at hr
  obtain ⟨z', hz', rfl⟩ := hr
  have hzz := getL_some hz'
  subst hzz
  cases q with
  | none =>
    refine fin_value hn ?_ s (Kept.refl w) hk
    simp only [execOp, ho]
    refine run_v ?_
    cases ok <;> simp [Instr.lookup, run_underlying h1, g.ev h2, g.ev h3, keyT_checks h4, Instr.findKey, run_underlying (keyT_under h4), Instr.findNow, run_zeroT h6]
  | some r =>
    obtain ⟨es, clk, hr, hk⟩ := hk
    rcases hk with ⟨i, x, hf, hK⟩ | ⟨hf, hK⟩
    · refine fin_value hn ?_ s (Kept.refl w) hK
      simp only [execOp, ho]
      refine run_v ?_
      cases ok <;> simp [Instr.lookup, run_underlying h1, g.ev h2, g.ev h3, run_getMap s hr, keyT_checks h4, run_findKey (keyT_under h4) hf]
    · refine fin_value hn ?_ s (Kept.refl w) hK
      simp only [execOp, ho]
      refine run_v ?_
      cases ok <;> simp [Instr.lookup, run_underlying h1, g.ev h2, g.ev h3, run_getMap s hr, keyT_checks h4, run_findKey (keyT_under h4) hf, run_zeroT h6]
theorem findNow_spec {d : TypeDesc} {k : Value} : ∀ (l : List MapEntry) (n i : Nat) (v : Value), Instr.findNow d k l n = some (some (i, v)) → n ≤ i ∧ ∃ e, l[i - n]? = some e ∧ e.val = v ∧ Instr.sameNow d k e.key = some true
  | [], n, i, v, h => by simp [Instr.findNow] at h
  | e :: es, n, i, v, h => by
    simp only [Instr.findNow] at h
    split at h
    · rename_i hs
      cases h
      exact ⟨Nat.le_refl _, e, by simp, rfl, hs⟩
    · obtain ⟨h1, e', h2, h3, h4⟩ := findNow_spec es (n + 1) i v h
      refine ⟨by omega, e', ?_, h3, h4⟩
      rw [show i - n = (i - (n + 1)) + 1 by omega]
      simpa using h2
    · cases h
theorem sameBits_of {d : TypeDesc} {k u : Value} (h : Instr.sameNow d k u = some true) : Instr.sameBits 10000 u k = true := by
  unfold Instr.sameNow at h
  split at h
  · rename_i k1 a1 k2 b1
    split at h
    · rename_i e; subst e
      have e : a1 = b1 := by simpa using h
      subst e
      simp [Instr.sameBits]
    · cases h
  · rename_i a1 b1
    injection h with h
    have e : a1 = b1 := (bytes_beq a1 b1).1 h
    subst e
    simpa only [Instr.sameBits] using h
  · rename_i a1 b1
    have e : a1 = b1 := by simpa using h
    subst e
    simp [Instr.sameBits]
  · cases h
theorem run_mapUpdate {t kt et : TypeId} {d : TypeDesc} {q : Option Nat} {k v : Value} {K : V → Prop} (s : Sees w h) (h1 : P.underlying t = some (.map kt et)) (h4 : keyT P kt = some d) (hk : MUpd h q d k v K) :
    ∃ w' h', (Instr.mapUpdate t (.map q) k v).run P w = .ok () w' ∧ Sees w' h' ∧ Kept w w' ∧ K h' := by
  obtain ⟨r, es, clk, rfl, hr, hk⟩ := hk
  rcases hk with ⟨i, x, hf, hK⟩ | ⟨hf, hK⟩
  · refine ⟨_, _, ?_, s.upd hr _, ⟨rfl, rfl, rfl⟩, hK⟩
    obtain ⟨_, e, he, _, hs⟩ := findNow_spec _ _ _ _ hf
    have hkey : ((es[i]?).map (·.key)).getD k = e.key := by
      have : es[i]? = some e := by simpa using he
      simp [this]
    simp only [Instr.mapUpdate, Sem.run_bind, run_underlying h1, Result.andThen_ok, run_getMap s hr, keyT_checks h4, run_findKey (keyT_under h4) hf, hkey, Instr.keyThatStays, sameBits_of hs, if_true, Sem.run_pure]
    exact run_setMap s hr (by intros; simp) _
  · refine ⟨_, _, ?_, s.upd hr _, ⟨rfl, rfl, rfl⟩, hK⟩
    simp only [Instr.mapUpdate, Sem.run_bind, run_underlying h1, Result.andThen_ok, run_getMap s hr, keyT_checks h4, run_findKey (keyT_under h4) hf]
    exact run_setMap s hr (by intros; simp) _
theorem snd_mapUpdate {t : TypeId} {x y z : Operand} (ho : o.op = .mapUpdate t x y z ∨ o.op = .insert t x y z) (hn : Nx o a w K next) (g : Agr nt a E) (s : Sees w h) {r : R} (hr : rsv P E o = some r) (hk : r.run P h K) : o.wp P a w next Q := by
  rcases ho with ho | ho <;>
  · simp only [rsv, ho] at hr
    split at hr
    case h_2 => cases hr
    rename_i kt et q k v h1 h2 h3 h5
    simp only [Option.map_eq_some_iff] at hr
    obtain ⟨d, hd, rfl⟩ := hr
    obtain ⟨w', h', hrun, s', k', hK⟩ := run_mapUpdate (P := P) s h1 hd hk
    refine fin_skip hn ?_ s' k' hK
    simp only [execOp, ho]
    exact run_u (by rw [g.ev h2, g.ev h3, g.ev h5]; exact hrun)
theorem snd_range {t : TypeId} {x : Operand} (ho : o.op = .range t x) (hn : Nx o a w K next) (g : Agr nt a E) (s : Sees w h) {r : R} (hr : rsv P E o = some r) (hk : r.run P h K) : o.wp P a w next Q := by
  simp only [rsv, ho] at hr
  split at hr
  case h_2 => cases hr
  rename_i kt et q h1 h2
  cases hr
  cases q with
  | none =>
    obtain ⟨h0, s'⟩ := s.new (.mapIter none 0 #[] 0)
    refine fin_value hn ?_ s' ⟨rfl, rfl, rfl⟩ (hk _ h0)
    simp only [execOp, ho]
    refine run_v ?_
    simp [Instr.range, run_underlying h1, g.ev h2]
  | some r =>
    obtain ⟨es, clk, hr, hk⟩ := hk
    obtain ⟨h0, s'⟩ := s.new (.mapIter (some r) clk #[] clk)
    refine fin_value hn ?_ s' ⟨rfl, rfl, rfl⟩ (hk _ h0)
    simp only [execOp, ho]
    refine run_v ?_
    simp [Instr.range, run_underlying h1, g.ev h2, run_getMap s hr]
theorem run_getIter (s : Sees w h) {r : Nat} {m : Option Nat} {a c : Nat} {b : Array Nat} (hr : h r = some (.mapIter m a b c)) : (getObj r).run P w = .ok (.mapIter m a b c) w := by
  simp [getObj, Sem.run, s _ _ hr]
theorem snd_next {x : Operand} (ho : o.op = .next x false) (hn : Nx o a w K next) (g : Agr nt a E) (s : Sees w h) {r : R} (hr : rsv P E o = some r) (hk : r.run P h K) : o.wp P a w next Q := by
  simp only [rsv, ho] at hr
  split at hr
  case h_2 => cases hr
  rename_i r spot h2
  cases hr
  rcases hk with ⟨u, v, c, hr, hK⟩ | ⟨m, since, seen, last, es, clk, hr, hm, hgone, hT, hF⟩
  · refine fin_value hn ?_ s (Kept.refl w) hK
    simp only [execOp, ho]
    refine run_v ?_
    simp [Instr.next, g.ev h2, run_getIter s hr]
  · have hgone' : (!seen.isEmpty && !es.isEmpty && es.all (·.born ≥ last)) = false := by
      cases hc : (!seen.isEmpty && !es.isEmpty && es.all (·.born ≥ last)) with
      | false => rfl
      | true =>
        simp only [Bool.and_eq_true, Bool.not_eq_true', Array.isEmpty_eq_false_iff] at hc
        obtain ⟨e, he, hlt⟩ := hgone hc.1.1 hc.1.2
        have := Array.all_eq_true_iff_forall_mem.1 hc.2 e he
        simp at this
        omega
    have hrun : ∀ i, i < ((if ((es.filter fun e => !seen.contains e.born).filter (·.born < since)).isEmpty then #[none] else #[]) ++ ((((es.filter fun e => !seen.contains e.born).filter (·.born < since)) ++ ((es.filter fun e => !seen.contains e.born).filter (·.born ≥ since))).map some) : Array (Option MapEntry)).size → True := fun _ _ => trivial
    unfold Oper.wp
    simp only [execOp, ho, Sem.run_bind, g.ev h2, Instr.next, run_getIter s hr, Result.andThen_ok, run_getMap s hm, hgone', Bool.false_eq_true, if_false, Sem.run_pure]
    generalize hcand : ((if ((es.filter fun e => !seen.contains e.born).filter (·.born < since)).isEmpty then #[none] else #[]) ++ ((((es.filter fun e => !seen.contains e.born).filter (·.born < since)) ++ ((es.filter fun e => !seen.contains e.born).filter (·.born ≥ since))).map some) : Array (Option MapEntry)) = cand
    have hmem : ∀ x ∈ cand, (x = none ∧ ∀ e ∈ es, e.born < since → e.born ∈ seen) ∨ (∃ e ∈ es, x = some e ∧ ¬ e.born ∈ seen) := by
      intro x hx
      rw [← hcand] at hx
      rcases Array.mem_append.1 hx with hx | hx
      · left
        split at hx
        · rename_i hemp
          have hx' : x = none := by simpa using hx
          refine ⟨hx', fun e he hlt => ?_⟩
          have h0 : ((es.filter fun e => !seen.contains e.born).filter (·.born < since)) = #[] := by simpa using hemp
          by_cases hin : e.born ∈ seen
          · exact hin
          · exfalso
            have : e ∈ ((es.filter fun e => !seen.contains e.born).filter (·.born < since)) := by
              simp [Array.mem_filter, he, hlt, hin]
            rw [h0] at this
            simp at this
        · simp at hx
      · right
        simp only [Array.mem_map, Array.mem_append, Array.mem_filter] at hx
        obtain ⟨e, he, rfl⟩ := hx
        have : e ∈ es ∧ (!seen.contains e.born) = true := by rcases he with he | he <;> exact he.1
        exact ⟨e, this.1, rfl, by simpa using this.2⟩
    have hne : cand.size ≠ 0 := by
      rw [← hcand]
      split
      · simp
      · rename_i hemp
        simp only [Array.size_append, Array.size_map]
        have : ((es.filter fun e => !seen.contains e.born).filter (·.born < since)).size ≠ 0 := by
          intro h0; exact hemp (by rw [Array.isEmpty, h0]; rfl)
        omega
    have main : ∀ i, i < cand.size → ∀ w1, Sees w1 h → Kept w w1 → Oper.upon P o a next Q
        ((Sem.run P (match cand[i]? with
          | some (some e) => do
            setObj r (.mapIter (some m) since (seen.push e.born) clk)
            pure (.tuple #[.bool true, e.key, e.val])
          | some none => pure (.tuple #[.bool false])
          | none => stuck "Next: no such candidate") w1).andThen fun v w' => .ok (Next.value v) w') := by
      intro i hi w1 s1 k1
      have hx : cand[i]? = some cand[i] := Array.getElem?_eq_getElem hi
      rw [hx]
      rcases hmem _ (Array.getElem_mem hi) with ⟨e0, hall⟩ | ⟨e, he, e0, hnin⟩
      · rw [e0]
        exact hn _ _ _ s1 k1 (hF hall)
      · rw [e0]
        simp only [Sem.run_bind, run_setMap s1 hr (by intros; simp), Result.andThen_ok, Sem.run_pure]
        exact hn _ _ _ (s1.upd hr _) (k1.trans ⟨rfl, rfl, rfl⟩) (hT e he hnin)
    simp only [run_choose]
    split
    · exact main 0 (by omega) w s (Kept.refl w)
    · rename_i hforce
      refine main _ ?_ _ s.drew ⟨rfl, rfl, rfl⟩
      simp only [Question.cut]
      exact Nat.mod_lt _ (by omega)
theorem snd_entry {x : Operand} (ho : o.op = .entry x) (hn : Nx o a w K next) (g : Agr nt a E) (s : Sees w h) {r : R} (hr : rsv P E o = some r) (hk : r.run P h K) : o.wp P a w next Q := by
  simp only [rsv, ho] at hr
  split at hr
  case h_2 => cases hr
  rename_i r spot h2
  cases hr
  obtain ⟨m, since, seen, b, clk, es, e, hr, hb, hm, hf, hK⟩ := hk
  refine fin_value hn ?_ s (Kept.refl w) hK
  simp only [execOp, ho]
  refine run_v ?_
  simp [Instr.entry, g.ev h2, run_getIter s hr, hb, run_getMap s hm, hf]
end
end Go.VL
