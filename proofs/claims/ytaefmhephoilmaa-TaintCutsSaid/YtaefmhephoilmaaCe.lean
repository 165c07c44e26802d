/- Contracts of package ssa: what is known where, by going on till nothing turns. -/
import Derived.Test.YtaefmhephoilmaaCd
namespace Go.Proofs.Ytaefmhephoilmaa
open Go Go.VL

def V.del (h : V) (r : Nat) : V := fun b => if b = r then none else h b
theorem del_le (h : V) (r : Nat) : Le (V.del h r) h := by
  intro b o hb
  unfold V.del at hb
  split at hb
  · cases hb
  · exact hb
theorem del_self (h : V) (r : Nat) : V.del h r r = none := by simp [V.del]
theorem del_ne {h : V} {r b : Nat} (hne : b ≠ r) : V.del h r b = h b := by simp [V.del, hne]
theorem mset_map {l : List (Option Nat)} {n : Nat} {x : Option Nat} : (l.map Value.map).set n (.map x) = (l.set n x).map Value.map := by rw [List.map_set]

/- the keys that a set loses -/
noncomputable def loses (s t : Int → Bool) : Bool := @decide (∃ v, s v = true ∧ t v = false) (Classical.propDecidable _)
theorem loses_true {s t : Int → Bool} : loses s t = true ↔ ∃ v, s v = true ∧ t v = false := by unfold loses; exact @decide_eq_true_iff _ (Classical.propDecidable _)
theorem loses_false {s t : Int → Bool} : loses s t = false ↔ ∀ v, s v = true → t v = true := by
  unfold loses
  rw [@decide_eq_false_iff_not _ (Classical.propDecidable _)]
  constructor
  · intro h v hv
    cases ht : t v with
    | true => rfl
    | false => exact absurd ⟨v, hv, ht⟩ h
  · rintro h ⟨v, h1, h2⟩
    rw [h v h1] at h2; cases h2

theorem c_meet_new {h1 h : V} {s : Sl} {vals : List (Option Nat)} {n : Int} {r2 : Nat} {R : Value → V → Prop} (l : Le h1 h) (o : OwnS h1 h s 29 1 (vals.map Value.map)) (h0 : 0 ≤ n) (hn : vals[n.toNat]? = some none)
    (hR : ∀ h', Le h1 h' → OwnS h1 h' s 29 1 ((vals.set n.toNat (some r2)).map Value.map) → (∀ b, (∀ a, s.a = some a → b ≠ a.block) → h' b = h b) → R (.bool true) h') : ACalls Try.prog 44 [sV s, iV n, .map (some r2)] h R := by
  have hlt : n.toNat < vals.length := (List.getElem?_eq_some_iff.1 hn).1
  have hv : vals[n.toNat] = none := by rw [List.getElem?_eq_getElem hlt] at hn; exact Option.some.inj hn
  have hmaps : isSl (fun h a x => cellq h a = some (Value.map x)) 1 h s vals := o.sl fun _ _ _ h => h
  refine S44_ok _ _ _ _ _ (hmaps.ix h0 hlt fun a ha => ⟨none, by rw [← hv]; exact ha, cond_b (fun _ => ?_) (fun e => by cases e)⟩)
  refine OwnS.set o l h0 (by simpa using hlt) fun h' l' o' f' => Wk_self (hR h' l' (by rw [mset_map] at o'; exact o') f')

theorem c_meet_old {h : V} {s : Sl} {vals : List (Option Nat)} {n : Int} {r1 r2 : Nat} {o1 o2 : Obj} {t1 t2 : Int → Bool} {R : Value → V → Prop} (hmaps : isSl (fun h a x => cellq h a = some (Value.map x)) 1 h s vals) (h0 : 0 ≤ n) (hn : vals[n.toNat]? = some (some r1))
    (hr1 : h r1 = some o1) (hs1 : SetRep o1 t1) (hr2 : h r2 = some o2) (hs2 : SetRep o2 t2)
    (hR : ∀ h' o1', h' r1 = some o1' → SetRep o1' (fun v => t1 v && t2 v) → (∀ b, b ≠ r1 → h b ≠ none → h' b = h b) → R (.bool (loses t1 t2)) h') : ACalls Try.prog 44 [sV s, iV n, .map (some r2)] h R := by
  have hlt : n.toNat < vals.length := (List.getElem?_eq_some_iff.1 hn).1
  have hv : vals[n.toNat] = some r1 := by rw [List.getElem?_eq_getElem hlt] at hn; exact Option.some.inj hn
  refine S44_ok _ _ _ _ _ (hmaps.ix h0 hlt fun a ha => ⟨some r1, by rw [← hv]; exact ha, cond_b (fun e => by cases e) (fun _ => ?_)⟩)
  refine hmaps.ix h0 hlt fun a2 ha2 => ⟨some r1, by rw [← hv]; exact ha2, ?_⟩
  obtain ⟨m, hm, hg⟩ := hs1
  have hs1 : SetRep o1 t1 := ⟨m, hm, hg⟩
  refine Rng_map (kd := .bool) hr1 hm fun it h3 hit l3 f3 hI => ?_
  have hne : it ≠ r1 := fun e => by subst e; rw [hit] at hr1; cases hr1
  refine Lp_iter (kd := .bool) (m0 := m)
    (fun m' left st hh => (∀ b, b ≠ r1 → h b ≠ none → hh b = h b) ∧ (∀ k, mget m' k = if t1 k && (decide (k ∈ mkeys left) || t2 k) then some true else none) ∧ (∀ k ∈ mkeys left, t1 k = true) ∧ (st.1 = true ↔ ∃ k, t1 k = true ∧ k ∉ mkeys left ∧ t2 k = false)) hI
    ⟨fun b hb hbn => f3 b (fun e => by subst e; exact hbn hit), fun k => ?_, fun k hk => (SetRep.mem hm hg).1 hk, ⟨fun h => by simp at h, fun ⟨k, h1, h2, _⟩ => absurd ((SetRep.mem hm hg).2 h1) h2⟩⟩ ?_ ?_
  · rw [hg k]
    cases hk : t1 k with
    | false => simp
    | true => have := (SetRep.mem hm hg).2 hk; simp [this]
  · rintro m' left ⟨st, u⟩ hh h' p K hI1 ⟨fr, hc, hle, hst⟩ hp hf hI2 hK
    have hpk : p.1 ∈ mkeys left := List.mem_map.2 ⟨p, hp, rfl⟩
    have hp1 : t1 p.1 = true := hle _ hpk
    have fr' : ∀ b, b ≠ r1 → h b ≠ none → h' b = h b := fun b hb hbn => (hf b (fun e => by subst e; exact hbn hit)).trans (fr b hb hbn)
    -- what the other map says
    have look : ∀ (K : Bool → Bool → Prop), K (t2 p.1) (t2 p.1) → Look h' (some r2) (.int .i64) (.int .i64 p.1) (.one .bool) false K := by
      intro K0 hK0
      by_cases e : r2 = r1
      · subst e
        rw [hr1] at hr2
        cases hr2
        obtain ⟨o3, ho3, hm3⟩ := hI2.map
        refine Look_map (kd := .bool) ho3 hm3 ?_
        have e12 : t2 p.1 = true := by
          obtain ⟨m2, hm2, hg2⟩ := hs2
          obtain ⟨es, clk, e1, q1, _⟩ := hm.ex
          obtain ⟨es', clk', e2, q2, _⟩ := hm2.ex
          rw [e1] at e2
          cases e2
          have hin := (SetRep.mem hm hg).2 hp1
          have : m.map (fun p => (Value.int .i64 p.1, Value.bool p.2)) = m2.map (fun p => (Value.int .i64 p.1, Value.bool p.2)) := q1.symm.trans q2
          have : mkeys m = mkeys m2 := by
            have := congrArg (List.map (fun x : Value × Value => match x.1 with | .int _ n => n | _ => 0)) this
            rw [List.map_map, List.map_map] at this
            exact this
          rw [this] at hin
          exact (SetRep.mem hm2 hg2).1 hin
        have e := hc p.1
        rw [hp1, e12] at e
        rw [e12] at hK0
        rw [e]
        simpa using hK0
      · exact SetRep.look ((fr' r2 e (by rw [hr2]; simp)).trans hr2) hs2 hK0
    refine unK_i (look _ (cond_not (fun hn2 => ?_) (fun hy2 => ?_)))
    · -- it goes
      have hmaps' : ∀ a, repBool h a true → True := fun _ _ => trivial
      refine hmaps.ix h0 hlt fun a3 ha3 => ⟨some r1, ?_, ?_⟩
      · rw [hv] at ha3
        have hblk : a3.block ≠ r1 ∧ h a3.block ≠ none := by
          unfold cellq at ha3
          constructor
          · intro e; rw [e, hr1] at ha3
            obtain ⟨es, clk, e1, _⟩ := hm.ex
            rw [e1] at ha3; cases ha3
          · intro e; rw [e] at ha3; cases ha3
        unfold cellq at ha3 ⊢
        rw [fr' _ hblk.1 hblk.2]
        exact ha3
      · refine MDel_iter hI2 (by rw [keys_filter]; exact fun h => h.2 rfl) fun h6 f6 hI3 => ?_
        obtain ⟨o3, ho3, hm3⟩ := hI2.map
        refine Wk_self (hK _ _ _ hI3 ⟨fun b hb hbn => (f6 b hb).trans (fr' b hb hbn), fun k => ?_, fun k hk => hle k (keys_filter.1 hk).1, ⟨fun _ => ⟨p.1, hp1, by rw [keys_filter]; exact fun h => h.2 rfl, hn2⟩, fun _ => rfl⟩⟩)
        rw [mget_mdel hm3.nodup]
        by_cases e : p.1 = k
        · subst e
          have : ¬ (p.1 ∈ mkeys (left.filter fun q => decide (q.1 ≠ p.1))) := by rw [keys_filter]; exact fun h => h.2 rfl
          simp only [if_true, this, decide_false, Bool.false_or]
          rw [show t2 p.1 = false from hn2]
          simp
        · rw [if_neg e, hc k]
          have : (k ∈ mkeys (left.filter fun q => decide (q.1 ≠ p.1))) ↔ k ∈ mkeys left := by rw [keys_filter]; exact ⟨fun h => h.1, fun h => ⟨h, fun x => e x.symm⟩⟩
          simp only [this]
    · refine Wk_self (hK _ _ _ hI2 ⟨fr', fun k => ?_, fun k hk => hle k (keys_filter.1 hk).1, hst.trans ⟨?_, ?_⟩⟩)
      · rw [hc k]
        by_cases e : k = p.1
        · subst e
          rw [show t2 p.1 = true from hy2]
          simp
        · have : (k ∈ mkeys (left.filter fun q => decide (q.1 ≠ p.1))) ↔ k ∈ mkeys left := by rw [keys_filter]; exact ⟨fun h => h.1, fun h => ⟨h, e⟩⟩
          simp only [this]
      · rintro ⟨k, h1, h2, h3⟩
        exact ⟨k, h1, fun h => h2 (keys_filter.1 h).1, h3⟩
      · rintro ⟨k, h1, h2, h3⟩
        refine ⟨k, h1, fun h => h2 (keys_filter.2 ⟨h, fun e => ?_⟩), h3⟩
        subst e
        rw [show t2 p.1 = true from hy2] at h3; cases h3
  · rintro m' ⟨st, u⟩ hh K hI1 ⟨fr, hc, hle, hst⟩
    obtain ⟨o3, ho3, hm3⟩ := hI1.map
    have hb : st = loses t1 t2 := by
      rw [Bool.eq_iff_iff, loses_true]
      have hst : st = true ↔ _ := hst
      rw [hst]
      simp [mkeys]
    have := hR hh o3 ho3 ⟨m', hm3, fun k => by rw [hc k]; simp [mkeys]⟩ fr
    rw [← hb] at this
    exact Wk_self this
end Go.Proofs.Ytaefmhephoilmaa
